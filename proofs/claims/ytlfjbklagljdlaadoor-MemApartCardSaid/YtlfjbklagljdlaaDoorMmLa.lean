/- Layer 9's laws: entries put in one behind the other: MemCuts, MemLatest: the walks. -/
import Derived.Test.YtlfjbklagljdlaaDoorMmRa
import Derived.Test.YtlfjbklagljdlaaDoorMmMb
namespace Go.Proofs.YtlfjbklagljdlaaDoor
open Go.RowKit
set_option linter.unusedVariables false
set_option linter.unusedSimpArgs false

/-- Where a loop stands that puts a row's entries into a mem. -/
def AddJ (w wr : World) (bm : Nat) (es : List EntR) (k : Nat) (l : List NodeR) : Prop :=
  MemL wr w.heap.size bm l ∧ l.map nEnt = addAll [] (es.take k) ∧ l.length ≤ k ∧ Below w.heap.size w wr
theorem AddJ.below {w wr w3 : World} {bm k : Nat} {es : List EntR} {l : List NodeR} (h : AddJ w wr bm es k l) (hb : Below wr.heap.size wr w3) : AddJ w w3 bm es k l := by
  obtain ⟨h1, h2, h3, h4⟩ := h
  exact ⟨h1.below hb, h2, h3, below_then h4 hb⟩
theorem addE_len (es : List EntR) (x : EntR) : (addE es x).length ≤ es.length + 1 := by
  cases hm : mayE x
  · rw [(nomay_add hm).1]; omega
  · cases hh : hasE es x
    · rw [(new_add hm hh).1, (new_add hm hh).2.2]; exact Nat.le_refl _
    · rw [(has_add hm hh).2.1]; omega
theorem AddJ.step {w wr w7 : World} {bm k : Nat} {es : List EntR} {l : List NodeR} (h : AddJ w wr bm es k l) (hk : k < es.length) (hA : AddO wr w7 w.heap.size bm l (elt noEnt es k)) : ∃ l', AddJ w w7 bm es (k + 1) l' := by
  obtain ⟨h1, h2, h3, h4⟩ := h
  obtain ⟨l', a1, a2, a3, a4, a5⟩ := hA
  refine ⟨l', a1, ?_, ?_, h4.trans a4⟩
  · rw [a2, h2, take_succ_elt noEnt hk, addAll_snoc]
  · have := addE_len (l.map nEnt) (elt noEnt es k)
    rw [← a2, List.length_map, List.length_map] at this
    omega
/-- append of records of another row. -/
theorem wpV_append {ops : Array Oper} {rest : List Oper} {o : Oper} {a : Act} {Q : Exit → Act → World → Prop} (t e : TypeId) (z : Value) (size bytes : Nat) (ht : Tryd.prog.underlying t = some (.slice e))
    (hinfo : (Tryd.prog.info? e).map (fun i => (i.zero, i.size, i.bytes)) = some (some z, size, bytes)) (hzs : z.cells.size = size) (hsz : 0 < size) (w0 w : World) (hwant : Region.wanted o (yielded ops a.tmps) = true) (s x : Operand)
    (ho : o.op = .call { callee := .builtin .append, args := #[s, x], argTypes := #[t, t] })
    (v : Value) (V : List (List Value)) (hs : a.eval s = v) (hown : OV w w0.heap.size e size v V) (A : Option Addr) (m c : Nat) (U : List (List Value)) (hx : a.eval x = .slice A m c) (hr : Reads w size A m U.flatten) (hU : ∀ x ∈ U, x.length = size) (hm : U.length = m) (hu : ∀ u ∈ U.flatten, u.oneCell' = true)
    (hmax : V.length + m ≤ maxLen) (hbytes : (V.length + m) * bytes ≤ 140737488355328) (hB : Below w0.heap.size w0 w)
    (h : ∀ v' w', OV w' w0.heap.size e size v' (V ++ U) → Below w0.heap.size w0 w' → w.grownBy w' v.ownBlock → wpList Tryd.prog ops Q rest (a.put o.dst v') w') : wpList Tryd.prog ops Q (o :: rest) a w := by
  refine BigFrame.wpList_want hwant fun K hK => ?_
  refine wp_append_any _ s x _ ho w0.heap.size e z size bytes ht hinfo hzs hsz v V.length V.flatten hs hown.1 _ m c U.flatten hx hr hu hmax hbytes hB.size ?_
  intro v' w' h2 h3 h4
  refine hK _ _ (h v' w' ⟨?_, ?_⟩ (hB.grown h3 hB.size (own_base hown.1)) h3)
  · rw [List.length_append, List.flatten_append, hm]
    exact h2
  · intro y hy
    rcases List.mem_append.1 hy with hy | hy
    · exact hown.2 y hy
    · exact hU y hy
/-- A row of one's own out of List: its records, as they are read behind it. -/
theorem ListC.rowV {w w' : World} {es : List EntR} {r : Ending} (h : ListC w w' es r) (hm : es.length ≤ 9223372036854775807) : ∃ A c V, r = .returned (.slice A es.length c) ∧ OV w' w.heap.size 28 5 (.slice A es.length c) V ∧ RelV noEnt (PER w') V es ∧ REnts w' A es.length es ∧ Below w.heap.size w w' := by
  obtain ⟨v, rfl, ⟨V, hv, hr⟩, hb⟩ := h
  have hr2 : RelV noEnt (PER w') V es := hr.mono fun x a hx => hx.reads
  obtain ⟨A, c, rfl, _, hre⟩ := REnts_of hv hr2 hm
  exact ⟨A, c, V, rfl, hv, hr2, hre, hb⟩
theorem ListC.rowP {w w' : World} {es : List EntR} {r : Ending} (h : ListC w w' es r) (hm : es.length ≤ 9223372036854775807) : ∃ A c V, r = .returned (.slice A es.length c) ∧ OV w' w.heap.size 28 5 (.slice A es.length c) V ∧ RelV noEnt (PEo w' w.heap.size) V es ∧ REnts w' A es.length es ∧ Below w.heap.size w w' := by
  obtain ⟨v, rfl, ⟨V, hv, hr⟩, hb⟩ := h
  obtain ⟨A, c, rfl, _, hre⟩ := REnts_of hv (hr.mono fun x a hx => hx.reads) hm
  exact ⟨A, c, V, rfl, hv, hr, hre, hb⟩
theorem RelV.below {w w' : World} {V : List (List Value)} {es : List EntR} (h : RelV noEnt (PER w) V es) (hb : Below w.heap.size w w') : RelV noEnt (PER w') V es := h.mono fun x a hx => hx.below hb
/-- The box of what is wanted. -/
def BoxJ (w wr : World) (b : Nat) (x : EntR) : Prop :=
  ∃ Ak nk ck Av nv cv, wr.heap[b]? = some (.cells #[.slice Ak nk ck, .int .i64 (eSeq x), .bool (eGone x), .int .i64 (eTil x), .slice Av nv cv] 28 (0, 0)) ∧ RB w Ak nk (eKey x) ∧ RB w Av nv (eVal x)
theorem BoxJ.below {w wr w3 : World} {b : Nat} {x : EntR} (h : BoxJ w wr b x) (hb : Below wr.heap.size wr w3) : BoxJ w w3 b x := by
  obtain ⟨Ak, nk, ck, Av, nv, cv, h1, h2, h3⟩ := h
  exact ⟨Ak, nk, ck, Av, nv, cv, blk_below hb h1, h2, h3⟩
theorem decide_str (xs ys : List UInt8) : ((bstr xs).toList == (bstr ys).toList) = decide (xs = ys) := by
  rw [show (bstr xs).toList = xs from ByteArray.toList_mk xs, show (bstr ys).toList = ys from ByteArray.toList_mk ys]
  exact Bool.eq_iff_iff.2 (by simp)
set_option maxHeartbeats 64000000 in
set_option maxRecDepth 100000 in
theorem MemCuts_walk (A : Option Addr) (n c : Nat) (es : List EntR) (Ar : Option Addr) (nr cr : Nat) (key : List UInt8) (s : Int) (w : World) (h : REnts w A n es) (hc : n ≤ c) (hk : RB w Ar nr key) (hkc : nr ≤ cr) (hT : TabOK w) :
    Calls Tryd.prog 4 #[.slice A n c, .slice Ar nr cr, .int .i64 s] w fun e w' => e = .returned (.bool true) ∧ Below w.heap.size w w' := by
  have hm := h.2.1
  have hkl := hk.1
  have H := hid h
  have HL := hid h.1
  have HT := hid hT
  have HK := hid hk
  clear h hT hk
  go_enter Tryd.func4, Tryd.ntmps4
  go_wp2_with (go_at_call 16; (with_reducible refine (new_any w.heap.size w (Nat.le_refl _)).mono ?_); rintro r w1 ⟨rfl, hm1, hb1⟩)
  obtain ⟨bm, hbm⟩ : ∃ bm, w.heap.size = bm := ⟨_, rfl⟩
  have hJ0 : AddJ w w1 bm es 0 [] := by
    rw [← hbm]
    exact ⟨hm1, rfl, Nat.le_refl _, hb1⟩
  have HJ0 := hid hJ0
  have HBM := hid hbm
  rw [hbm]
  clear hm1 hJ0 hbm hb1
  go_loopw [8] (fun i wr => ∃ (k : Nat) (l : List NodeR), k ≤ n ∧ i = .int .i64 k ∧ k ≤ 60 ∧ AddJ w wr bm es k l) (fun i wr => n - (intOf i).toNat)
  case atStart => exact ⟨0, [], Nat.zero_le _, rfl, Nat.zero_le _, HJ0.out⟩
  case round =>
    clear HJ0
    obtain ⟨k, l, hk, rfl, hk60, hJ⟩ := hrel
    by_cases hlt : k < n ∧ k < 60
    · obtain ⟨hlt, h60⟩ := hlt
      obtain ⟨ad, rfl, hc1⟩ := H.out.at_ hlt
      obtain ⟨Ak, nk, ck, Av, nv, cv, a0, a1, a2, a3, a4, a5, a6, a7, a8⟩ := hc1
      have hBr := hJ.2.2.2
      have HJ := hid hJ
      have HMm := hid hJ.1
      have hlk := hJ.2.2.1
      have hkn : k < es.length := by rw [HL.out]; exact hlt
      have HSt := hid (fun w7 (hA : AddO wr w7 w.heap.size bm l (elt noEnt es k)) => hJ.step hkn hA)
      have b0 := below_cell hBr a0
      have b1 := below_cell hBr a1
      have b2 := below_cell hBr a2
      have b3 := below_cell hBr a3
      have b4 := below_cell hBr a4
      have HStB := hid (fun w3 (hb3 : Below wr.heap.size wr w3) w7 (hA : AddO w3 w7 w.heap.size bm l (elt noEnt es k)) => (hJ.below hb3).step hkn hA)
      generalize elt noEnt es k = x at *
      have HKV := hid (⟨a5, a6⟩ : _ ∧ _)
      clear a5 a6 hJ HSt
      by_cases hli : nk ≤ 3000 ∧ nv ≤ 3000
      · have HLi := hid (decide_eq_true hli)
        clear hli
        go_wp2_with (first
          | (go_at_call 17; (with_reducible refine (light_any Ak nk ck (eSeq x) (eGone x) (eTil x) Av nv cv _).mono ?_); rintro r w3 ⟨rfl, hb3⟩; rw [HLi.out]; have hB3 := below_then hBr hb3; have d0 := below_cell hB3 a0; have d1 := below_cell hB3 a1; have d2 := below_cell hB3 a2; have d3 := below_cell hB3 a3; have d4 := below_cell hB3 a4)
          | (go_at_call 18; (with_reducible refine (add_any w.heap.size bm l Ak nk ck Av nv cv x _ (HMm.out.below hb3) (HT.out.below hB3) (HKV.out.1.below hB3) (HKV.out.2.below hB3) (by omega)).mono ?_); rintro r w7 ⟨rfl, hadd⟩; have HN := hid (HStB.out _ hb3 _ hadd); clear hadd))
        obtain ⟨l', hl'⟩ := HN.out
        have HL' := hid hl'
        clear hl' HN
        go_roundw
        case rel => exact ⟨k + 1, l', by omega, by go_num, by omega, HL'.out⟩
        case measure => simp [intOf]; omega
      · have HLi := hid (decide_eq_false hli)
        clear hli
        go_wp2_with (first
          | (go_at_call 17; (with_reducible refine (light_any Ak nk ck (eSeq x) (eGone x) (eTil x) Av nv cv _).mono ?_); rintro r w3 ⟨rfl, hb3⟩; rw [HLi.out]; have hB3 := below_then hBr hb3)
          | (go_at_call 15; (with_reducible refine (awake_any _ (HT.out.below hB3)).mono ?_); rintro r w8 ⟨rfl, hb8⟩; have hB8 := below_then hB3 hb8))
        go_ret
        exact ⟨rfl, hB8⟩
    · have hBr := hJ.2.2.2
      have hl60 := hJ.2.2.1
      have HJ := hid hJ
      have hlm : (l.map nEnt).length = l.length := List.length_map _
      have hlen1 := listE_len (l.map nEnt) key []
      have hlen0 := listE_len (l.map nEnt) [] key
      have HP1 := hid (fun (w3 : World) (hb : Below wr.heap.size wr w3) => list_any w.heap.size bm l Ar nr cr key none 0 0 [] w3 (HJ.out.1.below hb) (HK.out.below (below_then hBr hb)) (RB.nil _) (by omega))
      have HP2 := hid (fun (w3 : World) (hb : Below wr.heap.size wr w3) => list_any w.heap.size bm l none 0 0 [] Ar nr cr key w3 (HJ.out.1.below hb) (RB.nil _) (HK.out.below (below_then hBr hb)) (by omega))
      have HP3 := hid (fun (w3 : World) (hb : Below wr.heap.size wr w3) => all_any w.heap.size bm l w3 (HJ.out.1.below hb) (by omega))
      have HCut := hid (fun hne : key ≠ [] => cut_all HJ.out.1.srt HJ.out.1.mayE hne)
      have HBeh : Hid (getE (l.map nEnt) key s = getR key s (listE (l.map nEnt) key [])) := by
        unfold Hid
        rw [getE_R HJ.out.1.srt, get_behind HJ.out.1.mayE]
      have HG : Hid (∀ (w3 : World), Below wr.heap.size wr w3 → Calls Tryd.prog 12 #[.pointer (some ⟨bm, 0, none⟩), .slice Ar nr cr, .int .i64 s] w3 fun r w' => GetC w3 w' (getR key s (listE (l.map nEnt) key [])).1 (getR key s (listE (l.map nEnt) key [])).2 r) := fun w3 hb => by
        have := get_any w.heap.size bm l Ar nr cr key s w3 (HJ.out.1.below hb) (HK.out.below (below_then hBr hb))
        rw [HBeh.out] at this
        exact this
      have HBw := hid hBr
      clear HBeh hJ HJ HL
      generalize listE (l.map nEnt) key [] = L1 at *
      generalize listE (l.map nEnt) [] key = L0 at *
      generalize l.map nEnt = La at *
      have hn60 : L1.length ≤ 60 := by omega
      have h060 : L0.length ≤ 60 := by omega
      have ha60 : La.length ≤ 60 := by omega
      clear hlen1 hlen0 hlm hl60
      by_cases hz : k < n
      · have hz2 : ¬ k < 60 := fun h => hlt ⟨hz, h⟩
        have hd1 : decide ((k : Int) < 60) = false := decide_eq_false (by omega)
        have hd2 : decide ((k : Int) < (n : Int)) = true := decide_eq_true (by omega)
        clear hlt
        go_upto_region 9 with (go_at_call 19; (with_reducible refine (HP1.out _ (Below.refl _ _)).mono ?_); rintro r w3 hl3; obtain ⟨A1, c1, V1, rfl, hv1, hr1, hre1, hb3⟩ := hl3.rowP (by omega); have HV1 := hid hv1; have HR1 := hid hr1; have HRe1 := hid hre1; clear hv1 hr1 hre1 hl3)
        go_cut [56] (fun v wx => v = .bool false ∧ Below w3.heap.size w3 wx)
        case first =>
          rcases Nat.eq_zero_or_pos nr with hn0 | hn0
          · have hd : decide (0 < (nr : Int)) = false := decide_eq_false (by omega)
            go_wp2
            go_meet
            exact ⟨rfl, Below.refl _ _⟩
          · have hd : decide (0 < (nr : Int)) = true := decide_eq_true (by omega)
            have hne : key ≠ [] := by intro e; rw [e] at hkl; simp at hkl; omega
            have HCt := hid (HCut.out hne)
            have hlt0 : L0.length + L1.length = La.length := by rw [← HCt.out, List.length_append]
            clear hne HCut
            go_wp2_with (first
              | (go_at_call 19; (with_reducible refine (HP2.out _ hb3).mono ?_); rintro r w4 hl4; obtain ⟨A4, c4, V4, rfl, hv4, hr4, hre4, hb4⟩ := hl4.rowP (by omega); have hB4 := below_then hb3 hb4; have hrd := (HV1.out.below hb4).reads HR1.out.1; have hu1 := RelV.ones ((HR1.out.mono fun x a hx => hx.reads)); have hv1l := HR1.out.1; have hv4l := hr4.1; clear hre4 hl4)
              | (at_builtin; refine wpV_append 22 28 _ 5 72 Tryd.underlying22 eninfo rfl (by omega) w3 w4 (by rfl) (.tmp 49) (.tmp 50) rfl (.slice A4 L0.length c4) V4 rfl hv4 A1 L1.length c1 V1 rfl hrd HV1.out.2 hv1l hu1 (by simp only [maxLen]; omega) (by omega) hb4 ?_; intro v5 w5 hv5 hb5 hg5; have hrel5 : RelV noEnt (PEo w5 wr.heap.size) (V4 ++ V1) La := (by rw [← HCt.out]; exact RelV.app (hr4.mono fun x a hx => (hx.grown hg5 hv4).mono hb3.size) (HR1.out.mono fun x a hx => (hx.below hb4).grown hg5 hv4)); obtain ⟨A5, c5, hve5, _, hre5⟩ := REnts_of hv5 (hrel5.mono fun x a hx => hx.reads) (by omega); subst hve5; have HRe5 := hid hre5; clear hv5 hv4 hrd hu1 hrel5 hre5 hr4)
              | (go_at_call 21; (with_reducible refine (HP3.out _ (below_then hb3 hb5)).mono ?_); rintro r w6 hl6; obtain ⟨A6, c6, V6, rfl, hv6, hr6, hre6, hb6⟩ := hl6.rowP (by omega); have HRe6 := hid hre6; have HRe5b := hid (HRe5.out.below hb6); clear hv6 hr6 hre6 hl6)
              | (go_at_call 20; (with_reducible refine (sameentries_any A5 c5 A6 c6 La.length La w6 HRe5b.out HRe6.out).mono ?_); rintro r w7 ⟨rfl, hb7⟩; have hB7 := below_then hb5 (below_then hb6 hb7)))
            go_meet
            exact ⟨rfl, hB7⟩
        case rest =>
          obtain ⟨rfl, hB9⟩ := hcut
          have hB39 := below_then hb3 hB9
          have hB09 := below_then HBw.out hB39
          have HRe9 := hid (HRe1.out.below hB9)
          have HK9 := hid (HK.out.below hB09)
          clear HP1 HP2 HP3 HCut HV1 HR1 HRe1
          have hzb := heap_alloc_new wc (.cells #[.slice none 0 0, .int .i64 0, .bool false, .int .i64 0, .slice none 0 0] 28)
          have hza : Below wc.heap.size wc (wc.alloc (.cells #[.slice none 0 0, .int .i64 0, .bool false, .int .i64 0, .slice none 0 0] 28)) := below_alloc' (Below.refl _ _) _
          have HZ : Hid (BoxJ wc (wc.alloc (.cells #[.slice none 0 0, .int .i64 0, .bool false, .int .i64 0, .slice none 0 0] 28)) wc.heap.size noEnt) := ⟨none, 0, 0, none, 0, 0, hzb, RB.nil _, RB.nil _⟩
          go_wp2
          generalize wc.alloc (.cells #[.slice none 0 0, .int .i64 0, .bool false, .int .i64 0, .slice none 0 0] 28) = W1 at *
          obtain ⟨bx, hbxe⟩ : ∃ bx, wc.heap.size = bx := ⟨_, rfl⟩
          have HBX := hid hbxe
          rw [hbxe] at HZ ⊢
          clear hbxe hzb
          go_loopw [11, 60] (fun hv i wr => ∃ (j : Nat) (x : EntR) (hb : Bool), j ≤ L1.length ∧ i = .int .i64 j ∧ hv = .bool hb ∧ getR key s (L1.take j) = (x, hb) ∧ BoxJ wc wr bx x ∧ Below wc.heap.size wc wr) (fun hv i wr => L1.length - (intOf i).toNat)
          case atStart => exact ⟨0, noEnt, false, Nat.zero_le _, rfl, rfl, rfl, HZ.out, hza⟩
          case round =>
            clear HZ
            obtain ⟨j, x, hb, hj, rfl, rfl, hget, hbox, hBq⟩ := hrel
            have hB0q := below_then hB09 hBq
            have HBox := hid hbox
            by_cases hjl : j < L1.length
            · have HGy := hid (fun h => getR_take_same (key := key) (s := s) hjl h)
              have HGn := hid (fun h h1 h2 => getR_take_yes (key := key) (s := s) hjl h h1 h2)
              have HGo := hid (fun h h1 => getR_take_no (key := key) (s := s) hjl h h1)
              obtain ⟨ad, hA1, hc1⟩ := HRe9.out.at_ hjl
              subst hA1
              obtain ⟨Ak, nk, ck, Av, nv, cv, a0, a1, a2, a3, a4, a5, a6, a7, a8⟩ := hc1
              have a0 := below_cell hBq a0
              have a1 := below_cell hBq a1
              have a2 := below_cell hBq a2
              have a3 := below_cell hBq a3
              have a4 := below_cell hBq a4
              generalize elt noEnt L1 j = y at *
              have HGet := hid hget
              have hbb : Below wr.heap.size wr (wr.alloc (.cells #[.slice Ak nk ck, .int .i64 (eSeq y), .bool (eGone y), .int .i64 (eTil y), .slice Av nv cv] 28)) := below_alloc' (Below.refl _ _) _
              have hBqb := below_then hBq hbb
              have HKV := hid (⟨a5, a6⟩ : _ ∧ _)
              cases hb
              · have cv1 := RB.conv (a5.below hBqb) ck
                have cv2 := RB.conv (HK.out.below (below_then hB0q hbb)) cr
                have HStr := hid (decide_str (eKey y) key)
                by_cases hke : eKey y = key
                · have hs1 : ((bstr (eKey y)).toList == (bstr key).toList) = true := by rw [HStr.out]; exact decide_eq_true hke
                  by_cases hsq : eSeq y ≤ s
                  · have hs2 : decide (eSeq y ≤ s) = true := decide_eq_true hsq
                    have HNx := hid (HGn.out (by rw [HGet.out]) hke hsq)
                    obtain ⟨Bk, mk, dk, Bv, mv, dv, hbk, hr1, hr2⟩ := hbox
                    have hbk2 := blk_below hbb hbk
                    obtain ⟨z0, z1, z2, z3, z4⟩ := box5 hbk2
                    have fz := fun i => frozen_of_row _ bx i _ _ hbk2
                    clear hke hsq a5 a6 hget HGn HGo HGy
                    go_wp2
                    have hfin := set5 (.slice Ak nk ck) (.int .i64 (eSeq y)) (.bool (eGone y)) (.int .i64 (eTil y)) (.slice Av nv cv) hbk2
                    have hgf := grown_set5 (wr.alloc (.cells #[.slice Ak nk ck, .int .i64 (eSeq y), .bool (eGone y), .int .i64 (eTil y), .slice Av nv cv] 28)) bx (.slice Ak nk ck) (.int .i64 (eSeq y)) (.bool (eGone y)) (.int .i64 (eTil y)) (.slice Av nv cv)
                    go_roundw
                    case rel => exact ⟨j + 1, y, true, by omega, by go_num, rfl, HNx.out, ⟨Ak, nk, ck, Av, nv, cv, hfin, HKV.out.1, HKV.out.2⟩, hBqb.grown hgf hBqb.size (fun k hk => by have := HBX.out; cases hk; omega)⟩
                    case measure => simp [intOf]; omega
                  · have hs2 : decide (eSeq y ≤ s) = false := decide_eq_false hsq
                    have HNx := hid (HGo.out (by rw [HGet.out]) (fun h => hsq h.2))
                    have hx0 : x = noEnt := by
                      have := getR_none' (key := key) (s := s) (l := L1.take j) (by rw [HGet.out])
                      rw [HGet.out] at this
                      exact (Prod.mk.inj this).1
                    have HX0 := hid hx0
                    clear hke hsq a5 a6 hget HGn HGo HGy hbox hx0
                    go_wp2
                    go_roundw
                    case rel => exact ⟨j + 1, noEnt, false, by omega, by go_num, rfl, HNx.out, by have := HBox.out.below hbb; rwa [HX0.out] at this, hBqb⟩
                    case measure => simp [intOf]; omega
                · have hs1 : ((bstr (eKey y)).toList == (bstr key).toList) = false := by rw [HStr.out]; exact decide_eq_false hke
                  have HNx := hid (HGo.out (by rw [HGet.out]) (fun h => hke h.1))
                  have hx0 : x = noEnt := by
                    have := getR_none' (key := key) (s := s) (l := L1.take j) (by rw [HGet.out])
                    rw [HGet.out] at this
                    exact (Prod.mk.inj this).1
                  have HX0 := hid hx0
                  clear hke a5 a6 hget HGn HGo HGy hbox hx0
                  go_wp2
                  go_roundw
                  case rel => exact ⟨j + 1, noEnt, false, by omega, by go_num, rfl, HNx.out, by have := HBox.out.below hbb; rwa [HX0.out] at this, hBqb⟩
                  case measure => simp [intOf]; omega
              · have HNx := hid (HGy.out (by rw [HGet.out]))
                clear a5 a6 hget HGn HGo HGy hbox
                go_wp2
                go_roundw
                case rel => exact ⟨j + 1, x, true, by omega, by go_num, rfl, by rw [HNx.out, HGet.out], HBox.out.below hbb, hBqb⟩
                case measure => simp [intOf]; omega
            · obtain rfl : j = L1.length := by omega
              rw [List.take_of_length_le (Nat.le_refl _)] at hget
              have hg := HG.out _ (below_then hB39 hBq)
              rw [hget] at hg
              have HGt := hid hg
              obtain ⟨Bk, mk, dk, Bv, mv, dv, hbk, hr1, hr2⟩ := hbox
              have HR12 := hid (⟨hr1.below hBq, hr2.below hBq⟩ : _ ∧ _)
              clear hg hget HG HBox hr1 hr2
              cases hb
              all_goals
                go_wp2_with (first
                  | (go_at_call 12; (with_reducible refine HGt.out.mono ?_); rintro r w7 ⟨kv, vv, rfl, hk7, hv7, hb7⟩; obtain ⟨A7, c7, rfl, hr71, _⟩ := hk7.open_; obtain ⟨A8, c8, rfl, hr72, _⟩ := hv7.open_; have hba := below_alloc' (Below.refl w7.heap.size w7) (.cells #[.slice A7 (eKey x).length c7, .int .i64 (eSeq x), .bool (eGone x), .int .i64 (eTil x), .slice A8 (eVal x).length c8] 28); obtain ⟨y0, y1, y2, y3, y4⟩ := box5 (blk_below (below_then hb7 hba) hbk); have hB7 := below_then hB0q (below_then hb7 hba))
                  | (go_at_call 14; (with_reducible refine (sameentry_any A7 (eKey x).length c7 A8 (eVal x).length c8 Bk mk dk Bv mv dv (eSeq x) (eGone x) (eTil x) (eKey x) (eVal x) _ (hr71.alloc _) (hr72.alloc _) (HR12.out.1.below (below_then hb7 hba)) (HR12.out.2.below (below_then hb7 hba))).mono ?_); rintro r w8 ⟨rfl, hb8⟩; have hB8 := below_then hB7 hb8)
                  | (go_at_call 15; (with_reducible refine (awake_any _ (HT.out.below hB8)).mono ?_); rintro r w9 ⟨rfl, hb9⟩; have hB9' := below_then hB8 hb9))
                go_ret
                exact ⟨rfl, hB9'⟩
      · have hd2 : decide ((k : Int) < (n : Int)) = false := decide_eq_false (by omega)
        clear hlt
        go_upto_region 9 with (go_at_call 19; (with_reducible refine (HP1.out _ (Below.refl _ _)).mono ?_); rintro r w3 hl3; obtain ⟨A1, c1, V1, rfl, hv1, hr1, hre1, hb3⟩ := hl3.rowP (by omega); have HV1 := hid hv1; have HR1 := hid hr1; have HRe1 := hid hre1; clear hv1 hr1 hre1 hl3)
        go_cut [56] (fun v wx => v = .bool false ∧ Below w3.heap.size w3 wx)
        case first =>
          rcases Nat.eq_zero_or_pos nr with hn0 | hn0
          · have hd : decide (0 < (nr : Int)) = false := decide_eq_false (by omega)
            go_wp2
            go_meet
            exact ⟨rfl, Below.refl _ _⟩
          · have hd : decide (0 < (nr : Int)) = true := decide_eq_true (by omega)
            have hne : key ≠ [] := by intro e; rw [e] at hkl; simp at hkl; omega
            have HCt := hid (HCut.out hne)
            have hlt0 : L0.length + L1.length = La.length := by rw [← HCt.out, List.length_append]
            clear hne HCut
            go_wp2_with (first
              | (go_at_call 19; (with_reducible refine (HP2.out _ hb3).mono ?_); rintro r w4 hl4; obtain ⟨A4, c4, V4, rfl, hv4, hr4, hre4, hb4⟩ := hl4.rowP (by omega); have hB4 := below_then hb3 hb4; have hrd := (HV1.out.below hb4).reads HR1.out.1; have hu1 := RelV.ones ((HR1.out.mono fun x a hx => hx.reads)); have hv1l := HR1.out.1; have hv4l := hr4.1; clear hre4 hl4)
              | (at_builtin; refine wpV_append 22 28 _ 5 72 Tryd.underlying22 eninfo rfl (by omega) w3 w4 (by rfl) (.tmp 49) (.tmp 50) rfl (.slice A4 L0.length c4) V4 rfl hv4 A1 L1.length c1 V1 rfl hrd HV1.out.2 hv1l hu1 (by simp only [maxLen]; omega) (by omega) hb4 ?_; intro v5 w5 hv5 hb5 hg5; have hrel5 : RelV noEnt (PEo w5 wr.heap.size) (V4 ++ V1) La := (by rw [← HCt.out]; exact RelV.app (hr4.mono fun x a hx => (hx.grown hg5 hv4).mono hb3.size) (HR1.out.mono fun x a hx => (hx.below hb4).grown hg5 hv4)); obtain ⟨A5, c5, hve5, _, hre5⟩ := REnts_of hv5 (hrel5.mono fun x a hx => hx.reads) (by omega); subst hve5; have HRe5 := hid hre5; clear hv5 hv4 hrd hu1 hrel5 hre5 hr4)
              | (go_at_call 21; (with_reducible refine (HP3.out _ (below_then hb3 hb5)).mono ?_); rintro r w6 hl6; obtain ⟨A6, c6, V6, rfl, hv6, hr6, hre6, hb6⟩ := hl6.rowP (by omega); have HRe6 := hid hre6; have HRe5b := hid (HRe5.out.below hb6); clear hv6 hr6 hre6 hl6)
              | (go_at_call 20; (with_reducible refine (sameentries_any A5 c5 A6 c6 La.length La w6 HRe5b.out HRe6.out).mono ?_); rintro r w7 ⟨rfl, hb7⟩; have hB7 := below_then hb5 (below_then hb6 hb7)))
            go_meet
            exact ⟨rfl, hB7⟩
        case rest =>
          obtain ⟨rfl, hB9⟩ := hcut
          have hB39 := below_then hb3 hB9
          have hB09 := below_then HBw.out hB39
          have HRe9 := hid (HRe1.out.below hB9)
          have HK9 := hid (HK.out.below hB09)
          clear HP1 HP2 HP3 HCut HV1 HR1 HRe1
          have hzb := heap_alloc_new wc (.cells #[.slice none 0 0, .int .i64 0, .bool false, .int .i64 0, .slice none 0 0] 28)
          have hza : Below wc.heap.size wc (wc.alloc (.cells #[.slice none 0 0, .int .i64 0, .bool false, .int .i64 0, .slice none 0 0] 28)) := below_alloc' (Below.refl _ _) _
          have HZ : Hid (BoxJ wc (wc.alloc (.cells #[.slice none 0 0, .int .i64 0, .bool false, .int .i64 0, .slice none 0 0] 28)) wc.heap.size noEnt) := ⟨none, 0, 0, none, 0, 0, hzb, RB.nil _, RB.nil _⟩
          go_wp2
          generalize wc.alloc (.cells #[.slice none 0 0, .int .i64 0, .bool false, .int .i64 0, .slice none 0 0] 28) = W1 at *
          obtain ⟨bx, hbxe⟩ : ∃ bx, wc.heap.size = bx := ⟨_, rfl⟩
          have HBX := hid hbxe
          rw [hbxe] at HZ ⊢
          clear hbxe hzb
          go_loopw [11, 60] (fun hv i wr => ∃ (j : Nat) (x : EntR) (hb : Bool), j ≤ L1.length ∧ i = .int .i64 j ∧ hv = .bool hb ∧ getR key s (L1.take j) = (x, hb) ∧ BoxJ wc wr bx x ∧ Below wc.heap.size wc wr) (fun hv i wr => L1.length - (intOf i).toNat)
          case atStart => exact ⟨0, noEnt, false, Nat.zero_le _, rfl, rfl, rfl, HZ.out, hza⟩
          case round =>
            clear HZ
            obtain ⟨j, x, hb, hj, rfl, rfl, hget, hbox, hBq⟩ := hrel
            have hB0q := below_then hB09 hBq
            have HBox := hid hbox
            by_cases hjl : j < L1.length
            · have HGy := hid (fun h => getR_take_same (key := key) (s := s) hjl h)
              have HGn := hid (fun h h1 h2 => getR_take_yes (key := key) (s := s) hjl h h1 h2)
              have HGo := hid (fun h h1 => getR_take_no (key := key) (s := s) hjl h h1)
              obtain ⟨ad, hA1, hc1⟩ := HRe9.out.at_ hjl
              subst hA1
              obtain ⟨Ak, nk, ck, Av, nv, cv, a0, a1, a2, a3, a4, a5, a6, a7, a8⟩ := hc1
              have a0 := below_cell hBq a0
              have a1 := below_cell hBq a1
              have a2 := below_cell hBq a2
              have a3 := below_cell hBq a3
              have a4 := below_cell hBq a4
              generalize elt noEnt L1 j = y at *
              have HGet := hid hget
              have hbb : Below wr.heap.size wr (wr.alloc (.cells #[.slice Ak nk ck, .int .i64 (eSeq y), .bool (eGone y), .int .i64 (eTil y), .slice Av nv cv] 28)) := below_alloc' (Below.refl _ _) _
              have hBqb := below_then hBq hbb
              have HKV := hid (⟨a5, a6⟩ : _ ∧ _)
              cases hb
              · have cv1 := RB.conv (a5.below hBqb) ck
                have cv2 := RB.conv (HK.out.below (below_then hB0q hbb)) cr
                have HStr := hid (decide_str (eKey y) key)
                by_cases hke : eKey y = key
                · have hs1 : ((bstr (eKey y)).toList == (bstr key).toList) = true := by rw [HStr.out]; exact decide_eq_true hke
                  by_cases hsq : eSeq y ≤ s
                  · have hs2 : decide (eSeq y ≤ s) = true := decide_eq_true hsq
                    have HNx := hid (HGn.out (by rw [HGet.out]) hke hsq)
                    obtain ⟨Bk, mk, dk, Bv, mv, dv, hbk, hr1, hr2⟩ := hbox
                    have hbk2 := blk_below hbb hbk
                    obtain ⟨z0, z1, z2, z3, z4⟩ := box5 hbk2
                    have fz := fun i => frozen_of_row _ bx i _ _ hbk2
                    clear hke hsq a5 a6 hget HGn HGo HGy
                    go_wp2
                    have hfin := set5 (.slice Ak nk ck) (.int .i64 (eSeq y)) (.bool (eGone y)) (.int .i64 (eTil y)) (.slice Av nv cv) hbk2
                    have hgf := grown_set5 (wr.alloc (.cells #[.slice Ak nk ck, .int .i64 (eSeq y), .bool (eGone y), .int .i64 (eTil y), .slice Av nv cv] 28)) bx (.slice Ak nk ck) (.int .i64 (eSeq y)) (.bool (eGone y)) (.int .i64 (eTil y)) (.slice Av nv cv)
                    go_roundw
                    case rel => exact ⟨j + 1, y, true, by omega, by go_num, rfl, HNx.out, ⟨Ak, nk, ck, Av, nv, cv, hfin, HKV.out.1, HKV.out.2⟩, hBqb.grown hgf hBqb.size (fun k hk => by have := HBX.out; cases hk; omega)⟩
                    case measure => simp [intOf]; omega
                  · have hs2 : decide (eSeq y ≤ s) = false := decide_eq_false hsq
                    have HNx := hid (HGo.out (by rw [HGet.out]) (fun h => hsq h.2))
                    have hx0 : x = noEnt := by
                      have := getR_none' (key := key) (s := s) (l := L1.take j) (by rw [HGet.out])
                      rw [HGet.out] at this
                      exact (Prod.mk.inj this).1
                    have HX0 := hid hx0
                    clear hke hsq a5 a6 hget HGn HGo HGy hbox hx0
                    go_wp2
                    go_roundw
                    case rel => exact ⟨j + 1, noEnt, false, by omega, by go_num, rfl, HNx.out, by have := HBox.out.below hbb; rwa [HX0.out] at this, hBqb⟩
                    case measure => simp [intOf]; omega
                · have hs1 : ((bstr (eKey y)).toList == (bstr key).toList) = false := by rw [HStr.out]; exact decide_eq_false hke
                  have HNx := hid (HGo.out (by rw [HGet.out]) (fun h => hke h.1))
                  have hx0 : x = noEnt := by
                    have := getR_none' (key := key) (s := s) (l := L1.take j) (by rw [HGet.out])
                    rw [HGet.out] at this
                    exact (Prod.mk.inj this).1
                  have HX0 := hid hx0
                  clear hke a5 a6 hget HGn HGo HGy hbox hx0
                  go_wp2
                  go_roundw
                  case rel => exact ⟨j + 1, noEnt, false, by omega, by go_num, rfl, HNx.out, by have := HBox.out.below hbb; rwa [HX0.out] at this, hBqb⟩
                  case measure => simp [intOf]; omega
              · have HNx := hid (HGy.out (by rw [HGet.out]))
                clear a5 a6 hget HGn HGo HGy hbox
                go_wp2
                go_roundw
                case rel => exact ⟨j + 1, x, true, by omega, by go_num, rfl, by rw [HNx.out, HGet.out], HBox.out.below hbb, hBqb⟩
                case measure => simp [intOf]; omega
            · obtain rfl : j = L1.length := by omega
              rw [List.take_of_length_le (Nat.le_refl _)] at hget
              have hg := HG.out _ (below_then hB39 hBq)
              rw [hget] at hg
              have HGt := hid hg
              obtain ⟨Bk, mk, dk, Bv, mv, dv, hbk, hr1, hr2⟩ := hbox
              have HR12 := hid (⟨hr1.below hBq, hr2.below hBq⟩ : _ ∧ _)
              clear hg hget HG HBox hr1 hr2
              cases hb
              all_goals
                go_wp2_with (first
                  | (go_at_call 12; (with_reducible refine HGt.out.mono ?_); rintro r w7 ⟨kv, vv, rfl, hk7, hv7, hb7⟩; obtain ⟨A7, c7, rfl, hr71, _⟩ := hk7.open_; obtain ⟨A8, c8, rfl, hr72, _⟩ := hv7.open_; have hba := below_alloc' (Below.refl w7.heap.size w7) (.cells #[.slice A7 (eKey x).length c7, .int .i64 (eSeq x), .bool (eGone x), .int .i64 (eTil x), .slice A8 (eVal x).length c8] 28); obtain ⟨y0, y1, y2, y3, y4⟩ := box5 (blk_below (below_then hb7 hba) hbk); have hB7 := below_then hB0q (below_then hb7 hba))
                  | (go_at_call 14; (with_reducible refine (sameentry_any A7 (eKey x).length c7 A8 (eVal x).length c8 Bk mk dk Bv mv dv (eSeq x) (eGone x) (eTil x) (eKey x) (eVal x) _ (hr71.alloc _) (hr72.alloc _) (HR12.out.1.below (below_then hb7 hba)) (HR12.out.2.below (below_then hb7 hba))).mono ?_); rintro r w8 ⟨rfl, hb8⟩; have hB8 := below_then hB7 hb8)
                  | (go_at_call 15; (with_reducible refine (awake_any _ (HT.out.below hB8)).mono ?_); rintro r w9 ⟨rfl, hb9⟩; have hB9' := below_then hB8 hb9))
                go_ret
                exact ⟨rfl, hB9'⟩
end Go.Proofs.YtlfjbklagljdlaaDoor
