/- Shared texts, part S17: BkE1. -/
import Derived.Test.YtkkclkknpjapcaaDoorS15
import Derived.Test.YtkkclkknpjapcaaDoorS13
import Derived.Test.YtkkclkknpjapcaaDoorS04
import Derived.Test.YtkkclkknpjapcaaDoorS16
/-! ### BkE1 -/
namespace Go.Proofs.YtkkclkknpjapcaaDoor
open Go.RowKit
set_option linter.unusedVariables false
set_option linter.unusedSimpArgs false

theorem OI.other {w w' : World} {base : Nat} {v : Value} {zs : List Int} {row : Option Nat} (h : OI w base v zs) (hg : w.grownBy w' row) (hne : v.ownBlock = none ∨ v.ownBlock ≠ row) : OI w' base v zs := World.ownsRow.kept h hg hne
theorem OI.apart {w : World} {base base' : Nat} {u v : Value} {zs : List Int} {xs : List UInt8} (h : OI w base' u zs) (h2 : OB w base v xs) : u.ownBlock = none ∨ u.ownBlock ≠ v.ownBlock := by
  rcases h.2 with ⟨rfl, _⟩ | ⟨g, cap, cur, rfl, _, hh, _⟩
  · exact .inl rfl
  · refine .inr ?_
    intro e
    rcases h2.2 with ⟨rfl, _⟩ | ⟨g', cap', cur', rfl, _, hh', _⟩
    · cases e
    · have e2 : g = g' := Option.some.inj e
      rw [e2, hh'] at hh
      injection hh with hh
      injection hh with _ hh _
      exact absurd hh (by decide)
theorem OB.lit1' (w : World) (base : Nat) (hb : base ≤ w.heap.size) (x : UInt8) (z : Int) (hz : z = x.toNat) : OB (w.alloc (.cells #[.int .u8 z] 5)) base (.slice (some ⟨w.heap.size, 0, none⟩) 1 1) [x] := by
  subst hz
  exact ⟨by simp [bys], .inr ⟨w.heap.size, 1, _, rfl, hb, heap_alloc_new w _, Nat.le_refl _, by decide, rfl, by simp [bys]⟩⟩
theorem wrap_u64_nat' (a : Nat) (h : a < 18446744073709551616) : IntKind.u64.wrap (a : Int) = a := by rw [IntKind.wrap_u64]; omega
theorem stK_at (es : List EntR) (B : Nat) : ∀ n, (∀ k, k ≤ n → (accK es k).length ≤ B) → ∀ j, j < (stK es n).length → ∃ g : Nat, elt 0 (stK es n) j = (g : Int) ∧ g ≤ B := by
  intro n
  induction n with
  | zero => intro _ j hj; simp [stK] at hj
  | succ n ih =>
    intro hB j hj
    have hi := ih (fun k hk => hB k (by omega))
    rw [stK] at hj ⊢
    split
    · rename_i h8
      rw [if_pos h8, List.length_append, List.length_singleton] at hj
      by_cases h : j < (stK es n).length
      · obtain ⟨g, h1, h2⟩ := hi j h
        refine ⟨g, ?_, h2⟩
        rw [← h1]
        unfold elt
        rw [List.getD_eq_getElem?_getD, List.getD_eq_getElem?_getD, List.getElem?_append_left h]
      · have : j = (stK es n).length := by omega
        subst this
        refine ⟨(accK es n).length, ?_, hB n (by omega)⟩
        simp [elt]
    · rename_i h8
      rw [if_neg h8] at hj
      exact hi j hj
theorem OB.apartI {w : World} {base base' : Nat} {u v : Value} {zs : List Int} {xs : List UInt8} (h : OI w base' u zs) (h2 : OB w base v xs) : v.ownBlock = none ∨ v.ownBlock ≠ u.ownBlock := by
  rcases h.apart h2 with h3 | h3
  · cases hv : v.ownBlock with
    | none => exact .inl rfl
    | some k => rw [h3]; exact .inr (by intro e; cases e)
  · exact .inr (fun e => h3 e.symm)
theorem wpI_append1g {ops : Array Oper} {rest : List Oper} {o : Oper} {a : Act} {Q : Exit → Act → World → Prop} (w0 w : World) (base : Nat) (hgd : o.guard = none) (s x : Operand)
    (ho : o.op = .call { callee := .builtin .append, args := #[s, x], argTypes := #[90, 90] })
    (v : Value) (zs : List Int) (hs : a.eval s = v) (hown : OI w base v zs) (z : Int) (c g : Nat) (hg : g = w.heap.size) (hx : a.eval x = .slice (some ⟨g, 0, none⟩) 1 c)
    (hbytes : (zs.length + 1) * 8 ≤ 140737488355328) (hB : Below base w0 w) (hbase : base ≤ w.heap.size)
    (h : ∀ v' w', OI w' base v' (zs ++ [z]) → Below base w0 w' → w.grownBy w' v.ownBlock → wpList Tryd.prog ops Q rest (a.put o.dst v') w') : wpList Tryd.prog ops Q (o :: rest) a (w.alloc (.cells #[.int .i64 z] 3)) := by
  subst hg
  have hB1 : Below base w0 (w.alloc (.cells #[.int .i64 z] 3)) := hB.alloc hbase _
  have hr : Reads (w.alloc (.cells #[.int .i64 z] 3)) 1 (some ⟨w.heap.size, 0, none⟩) 1 (ints [z]) := Reads.block (heap_alloc_new w _) rfl
  refine wpList_append_any _ hgd s x _ ho base 3 (.int .i64 0) 1 8 Tryd.underlying90 intinfo rfl (by omega) v zs.length (ints zs) hs (World.ownsRow.alloc hown _) _ 1 c (ints [z]) hx hr (ints_one _) (by simp only [maxLen]; omega) hbytes (by simp; omega) ?_
  intro v' w' h1 h2 h3
  refine h v' w' ?_ (hB1.grown h2 (by simp; omega) (own_base hown)) (grown_step (v0 := v) (World.grownBy_alloc w _ _) (AtRow.refl _ v) h2)
  show w'.ownsRow _ _ _ _ _ _
  rw [List.length_append, ints_append]
  exact h1
/-- What Encode holds. -/
def EnJ (w wr : World) (v : Value) (L : List UInt8) (u : Value) (zs : List Int) : Prop := OB wr w.heap.size v L ∧ OI wr w.heap.size u zs ∧ Below w.heap.size w wr
theorem EnJ.below {w wr w' : World} {v u : Value} {L : List UInt8} {zs : List Int} (h : EnJ w wr v L u zs) (hb : Below wr.heap.size wr w') : EnJ w w' v L u zs := ⟨h.1.below hb, h.2.1.below hb, below_then h.2.2 hb⟩
theorem EnJ.step {w wr w' : World} {v v' u : Value} {L L' : List UInt8} {zs : List Int} (h : EnJ w wr v L u zs) (hg : wr.grownBy w' v.ownBlock) (h' : OB w' w.heap.size v' L') : EnJ w w' v' L' u zs :=
  ⟨h', h.2.1.other hg (h.2.1.apart h.1), h.2.2.grown hg h.2.2.size (OB.base_ h.1)⟩
theorem EnJ.stepI {w wr w' : World} {v u u' : Value} {L : List UInt8} {zs zs' : List Int} (h : EnJ w wr v L u zs) (hg : wr.grownBy w' u.ownBlock) (h' : OI w' w.heap.size u' zs') : EnJ w w' v L u' zs' :=
  ⟨h.1.other hg (OB.apartI h.2.1 h.1), h', h.2.2.grown hg h.2.2.size (OI.base_ h.2.1)⟩
theorem EnBx.grownI {w wr : World} {base b : Nat} {Ak : Option Addr} {nk ck : Nat} {e : EntR} {Av : Option Addr} {nv cv : Nat} {v : Value} {zs : List Int} (h : wr.heap[b]? = some (.cells #[.slice Ak nk ck, .int .i64 (eSeq e), .bool (eGone e), .int .i64 (eTil e), .slice Av nv cv] 29 (0, 0))) (hg : wr.grownBy w v.ownBlock) (hv : OI wr base v zs) : w.heap[b]? = some (.cells #[.slice Ak nk ck, .int .i64 (eSeq e), .bool (eGone e), .int .i64 (eTil e), .slice Av nv cv] 29 (0, 0)) := by
  refine blk_grown' hg h ?_
  intro e1
  rcases hv.2 with ⟨rfl, _⟩ | ⟨g, cap, cur, rfl, _, hh, _⟩
  · cases e1
  · have e2 : g = b := Option.some.inj e1
    rw [e2, h] at hh
    injection hh with hh
    injection hh with _ hh _
    exact absurd hh (by decide)
/-- An entry's box. -/
def EnBx (wr : World) (b : Nat) (Ak : Option Addr) (nk ck : Nat) (e : EntR) (Av : Option Addr) (nv cv : Nat) : Prop := wr.heap[b]? = some (.cells #[.slice Ak nk ck, .int .i64 (eSeq e), .bool (eGone e), .int .i64 (eTil e), .slice Av nv cv] 29 (0, 0))
theorem EnBx.grown {w wr : World} {base b : Nat} {Ak : Option Addr} {nk ck : Nat} {e : EntR} {Av : Option Addr} {nv cv : Nat} {v : Value} {L : List UInt8} (h : EnBx w b Ak nk ck e Av nv cv) (hg : w.grownBy wr v.ownBlock) (hv : OB w base v L) : EnBx wr b Ak nk ck e Av nv cv := blk_grown' hg h (OB.ne_blk hv h (by decide))
theorem EnBx.at_ {w : World} {b : Nat} {Ak : Option Addr} {nk ck : Nat} {e : EntR} {Av : Option Addr} {nv cv : Nat} (h : EnBx w b Ak nk ck e Av nv cv) : w.cell? ⟨b, 0, none⟩ = some (.slice Ak nk ck) ∧ w.cell? ⟨b, 1, none⟩ = some (.int .i64 (eSeq e)) ∧ w.cell? ⟨b, 2, none⟩ = some (.bool (eGone e)) ∧ w.cell? ⟨b, 3, none⟩ = some (.int .i64 (eTil e)) ∧ w.cell? ⟨b, 4, none⟩ = some (.slice Av nv cv) :=
  ⟨box_at h 0 _ rfl, box_at h 1 _ rfl, box_at h 2 _ rfl, box_at h 3 _ rfl, box_at h 4 _ rfl⟩
theorem FitK.len {es : List EntR} (h : FitK es) {n : Nat} (hn : es.length = n) : ∀ k, k ≤ n → (accK es k).length ≤ k * 2700 := by
  subst hn
  exact accK_len h.2.2.1
theorem bkTail_true {e : EntR} {L : List UInt8} (h : eGone e = true) : bkTail e L = L ++ [1] := by unfold bkTail; rw [h]
theorem bkTail_false {e : EntR} {L : List UInt8} (h : eGone e = false) : bkTail e L = ((L ++ [0]) ++ uvar (eTil e).toNat) ++ uvar (eVal e).length ++ eVal e := by unfold bkTail; rw [h]
theorem put0_any (A : Option Addr) (n c : Nat) (xs : List UInt8) (w : World) (h : RB w A n xs) (hsz : n + 10 ≤ 140737488355328) :
    Calls Tryd.prog 31 #[.slice A n c, .int .u64 0] w fun e w' => ∃ v, e = .returned v ∧ OB w' w.heap.size v (xs ++ uvar 0) ∧ Below w.heap.size w w' := put_any A n c xs 0 w h (by omega) hsz
set_option maxHeartbeats 64000000 in
set_option maxRecDepth 200000 in
theorem encode_fit (A : Option Addr) (n c : Nat) (es : List EntR) (w : World) (h : REnts w A n es) (hf : FitK es) :
    Calls Tryd.prog 29 #[.slice A n c] w fun r w' => ∃ v, r = .returned (.tuple #[v, .int .i64 0]) ∧ OB w' w.heap.size v (encK es) ∧ Below w.heap.size w w' := by
  have hl := h.1
  have hmax := h.2.1
  have h1 := hf.1
  have h400 := hf.2.1
  rw [hl] at h1 h400
  have hn0 : ((n : Int) == 0) = false := by rw [beq_eq_false_iff_ne]; omega
  have hn4 : decide ((400 : Int) < (n : Int)) = false := decide_eq_false (by omega)
  have HLen := hid (hf.len hl)
  have HMay : Hid (∀ j, j < n → mayE (elt noEnt es j) = true) := hid (fun j hj => hf.2.2.1 j (by omega))
  have HSr := hid (srtB_true hf.2.2.2)
  have H := hid h
  have HL := hid hl
  clear h hf hl
  go_enter Tryd.func29, Tryd.ntmps29
  go_wp2
  go_loopw [23] (fun i wr => ∃ k : Nat, k ≤ n ∧ i = .int .i64 k ∧ Below w.heap.size w wr) (fun i wr => n - (intOf i).toNat)
  case atStart => exact ⟨0, Nat.zero_le _, rfl, Below.refl _ _⟩
  case round =>
    obtain ⟨k, hk, rfl, hB⟩ := hrel
    by_cases hlt : k < n
    · obtain ⟨ad, rfl, hen⟩ := H.out.at_ hlt
      obtain ⟨Ak, nk, ck, Av, nv, cv, a0, a1, a2, a3, a4, a5, a6, a7, a8⟩ := hen.below hB
      have hm := HMay.out k hlt
      have hkl := a5.max
      have hvl := a6.max
      have e5 := a5.1
      have e6 := a6.1
      generalize elt noEnt es k = x at *
      have hmN : mayN nk (eSeq x) (eGone x) (eTil x) nv = true := by rw [← e5, ← e6]; exact hm
      have HmN := hid hmN
      clear hen a5 a6 hm hmN e5 e6
      go_wp2_with (go_at_call 49; (with_reducible refine (bkmay_any Ak nk ck (eSeq x) (eGone x) (eTil x) Av nv cv _ hkl hvl).mono ?_); rintro r w1 ⟨rfl, hb1⟩; rw [HmN.out])
      go_roundw
      case rel => exact ⟨k + 1, by omega, by go_num, below_then (below_alloc' hB _) hb1⟩
      case measure => simp [intOf]; omega
    · obtain rfl : k = n := by omega
      go_wp2_with (go_at_call 48; (with_reducible refine (bkordered_any A k c es _ (H.out.below hB)).mono ?_); rintro r w1 ⟨rfl, hb1⟩; rw [HSr.out]; have hB1 := below_then hB hb1)
      go_loopw [6, 7, 36] (fun v u i wr => ∃ j : Nat, j ≤ k ∧ i = .int .i64 j ∧ EnJ w wr v (accK es j) u (stK es j)) (fun v u i wr => k - (intOf i).toNat)
      case atStart => exact ⟨0, Nat.zero_le _, rfl, OB.nil _ _, OI.nil _ _, hB1⟩
      case round =>
        obtain ⟨j, hj, rfl, hJ⟩ := hrel
        by_cases hjt : j < k
        · skip
          have hlen := HLen.out j hj
          have hsh := shN_le es j
          have hm := HMay.out j hjt
          have hacc : accK es (j + 1) = bkTail (elt noEnt es j) (bkHead (shN es j) (elt noEnt es j) (accK es j)) := rfl
          have hst : stK es (j + 1) = if j % 8 = 0 then stK es j ++ [((accK es j).length : Int)] else stK es j := rfl
          have hslen := stK_len es j
          have hsn : shN es j = if j % 8 = 0 then 0 else cmnB (eKey (elt noEnt es (j - 1))) (eKey (elt noEnt es j)) := rfl
          obtain ⟨ad, hA, hen⟩ := H.out.at_ hjt
          subst hA
          have hen1 : 0 < j → EnC w (ad.add ((j - 1) * 5)) (elt noEnt es (j - 1)) := fun h0 => by
            obtain ⟨ad1, ha, hx⟩ := H.out.at_ (show j - 1 < k by omega)
            obtain rfl := Option.some.inj ha
            exact hx
          generalize elt noEnt es j = x at *
          generalize shN es j = NN at *
          generalize accK es j = L at *
          generalize stK es j = zs at *
          obtain ⟨m1, m2, m3, m4, m5⟩ := mayE_cases hm
          obtain ⟨m6, m7, m8⟩ := mayE_more hm
          obtain ⟨Ak, nk, ck, Av, nv, cv, a0, a1, a2, a3, a4, a5, a6, a7, a8⟩ := hen
          have a0 := below_cell hJ.2.2 a0
          have a1 := below_cell hJ.2.2 a1
          have a2 := below_cell hJ.2.2 a2
          have a3 := below_cell hJ.2.2 a3
          have a4 := below_cell hJ.2.2 a4
          obtain ⟨Ao, co, hve, _, _⟩ := hJ.1.open_
          subst hve
          have hnk := a5.1
          have hnv := a6.1
          have HKw : Hid (∀ W, Below w.heap.size w W → RB W Ak nk (eKey x)) := hid (fun W hb => a5.below hb)
          have HVw : Hid (∀ W, Below w.heap.size w W → RB W Av nv (eVal x)) := hid (fun W hb => a6.below hb)
          obtain ⟨sq, hsq⟩ : ∃ sq : Nat, eSeq x = (sq : Int) := ⟨(eSeq x).toNat, by omega⟩
          obtain ⟨tl, htl⟩ : ∃ tl : Nat, eTil x = (tl : Int) := ⟨(eTil x).toNat, by omega⟩
          have hsq2 : sq < 18446744073709551616 := by omega
          have htl2 : tl < 18446744073709551616 := by omega
          have HSq := hid hsq
          have HTl := hid htl
          clear hsq htl m4 m5 m6 m7
          rw [hnk] at hsh m1 m2
          rw [hnv] at m3
          have hJ0 := hJ.below (below_alloc' (Below.refl _ _) (.cells #[.slice Ak nk ck, .int .i64 (eSeq x), .bool (eGone x), .int .i64 (eTil x), .slice Av nv cv] 29))
          have hbx : EnBx (wr.alloc (.cells #[.slice Ak nk ck, .int .i64 (eSeq x), .bool (eGone x), .int .i64 (eTil x), .slice Av nv cv] 29)) wr.heap.size Ak nk ck x Av nv cv := heap_alloc_new wr _
          have HAcc := hid hacc
          have HSt := hid hst
          have HEn1 := hid hen1
          have HSn := hid hsn
          have HM8 := hid m8
          have HBw := hid hJ.2.2
          clear hacc hst hen1 hsn hm m8 a5 a6 hJ
          by_cases h8 : j % 8 = 0
          · have hm8 : ((j : Int) % 8 == 0) = true := by rw [beq_iff_eq]; omega
            have hN0 : NN = 0 := by rw [HSn.out, if_pos h8]
            have HSt2 : Hid (stK es (j + 1) = zs ++ [(L.length : Int)]) := hid (by rw [HSt.out, if_pos h8])
            subst hN0
            clear h8
            have hsl : (zs.length + 1) * 8 ≤ 140737488355328 := by rw [hslen]; omega
            go_wp2_with (at_builtin; refine wpI_append1g w _ w.heap.size rfl (.tmp 44) (.tmp 47) rfl u7 zs rfl hJ0.2.1 (L.length : Int) 1 _ (by first | rfl | simp) rfl hsl hJ0.2.2 hJ0.2.2.size ?_; intro v7 w7 hown7 hB7 hg7)
            have hbx : EnBx w7 wr.heap.size Ak nk ck x Av nv cv := EnBx.grownI hbx hg7 hJ0.2.1
            have hJ0 := hJ0.stepI hg7 hown7
            clear hown7 hB7 hg7
            generalize w7 = W0 at *
            generalize wr.heap.size = b at *
            have hbW := hJ0.2.2.size
            have hown := hJ0.1
            have huN := uvar_len 0
            have hR2 : nk < 18446744073709551616 := by omega
            have huR := uvar_len nk
            have hN2 : 0 < 18446744073709551616 := by omega
            have hq1 := wrap_u64_nat' 0 hN2
            have hq2 := wrap_u64_nat' nk hR2
            have hq3 := wrap_u64_nat' sq hsq2
            have hq4 := wrap_u64_nat' tl htl2
            have hq0 : IntKind.u64.wrap 0 = 0 := by rw [IntKind.wrap_u64]; rfl
            have hwk : IntKind.i64.wrap (nk : Int) = (nk : Int) := by rw [IntKind.wrap_i64]; omega
            go_wp2
            apply wp_region_txtB (w.heap.size) 0 ((Value.slice Ao L.length co).ownBlock) [none, none, none, none, none, none, some 11, none, none, none, none, none, none, none, none, none, none, none, none, none, none, none, none, none, none, none, none, none, none, none, none, none, none, none, none, none, none, none, none, none, none, none, none, none, none, none, none, none, none, none, none, none, none, none, none, none, none, none, some 0, some 1, some 2, some 3, some 4, some 5, some 6, some 7, some 8, some 9, some 10, none, none, none, none, none, none, none, none, none, none, none, none, none, none, none, none, none, none, none, none, none, none, none, none, none, none, none, none, none, none, none, none, none, none, none, none, none, none, none, none, none, none] [0, 3, 10, 11] [(10, 11)] [undef, _, _, undef, _, _, _, _, _, _, undef, undef] [_, [], [], _, [], [], [], [], [], [], _, _]
            case hm => rfl
            case hs => rfl
            case hst => kernel_rfl
            case hrow0 => exact fun k hk => (World.ownsRow.lt hown k hk).2
            case hput => exact OpsOK.cons (fun _ _ => rfl) (OpsOK.cons (fun _ _ => rfl) (OpsOK.cons (fun _ _ => rfl) (OpsOK.cons (fun _ _ => rfl) (OpsOK.cons (fun _ _ => rfl) (OpsOK.cons (fun _ _ => rfl) (OpsOK.cons (fun _ _ => rfl) (OpsOK.cons (fun _ _ => rfl) (OpsOK.cons (fun _ _ => rfl) (OpsOK.cons (fun _ _ => rfl) (OpsOK.cons (fun _ _ => rfl) (OpsOK.cons (fun _ _ => rfl) (OpsOK.nil))))))))))))
            case hops =>
              refine OpsOK.cons ?_ ?_
              · intro u W K hB hz0 hz1 hd hK
                have hbW := Nat.le_trans hbW hB.size
                replace hK := hk_oldB hK rfl (by decide) (by rfl)
                clear hd
                have hw : u 11 = ((Value.slice Ao L.length co)) := (was_of hz1 11 (by kernel_rfl)).trans rfl
                clear hz1
                simp only [lay, Act.put, List.setIfInBounds_toArray, List.set_cons_zero, List.set_cons_succ, hw] at hK ⊢
                go_simp
                exact hK.out _ (OB.below hown (hz0 rfl)) (fun k hk => hk.symm)
              refine OpsOK.cons ?_ ?_
              · intro u W K hB hz0 hz1 hd hK
                have hbW := Nat.le_trans hbW hB.size
                replace hK := hk_valB hK (by decide) (by rfl)
                clear hd
                clear hz1
                simp only [lay, Act.put, List.setIfInBounds_toArray, List.set_cons_zero, List.set_cons_succ] at hK ⊢
                go_simp
                exact hK.out _ _ rfl (Below.refl _ _)
              refine OpsOK.cons ?_ ?_
              · intro u W K hB hz0 hz1 hd hK
                have hbW := Nat.le_trans hbW hB.size
                have h1 := fact_valB (dep_of hd 1 (by kernel_rfl) (by kernel_rfl)) (by decide)
                dsimp only [nth] at h1
                replace hK := hk_valB hK (by decide) (by rfl)
                clear hd
                clear hz1
                simp only [lay, Act.put, List.setIfInBounds_toArray, List.set_cons_zero, List.set_cons_succ, h1] at hK ⊢
                go_simp
                exact hK.out _ _ rfl (Below.refl _ _)
              refine OpsOK.cons ?_ ?_
              · intro u W K hB hz0 hz1 hd hK
                have hbW := Nat.le_trans hbW hB.size
                have h0 := fact_rowB (dep_of hd 0 (by kernel_rfl) (by kernel_rfl)) (by decide)
                dsimp only [nth] at h0
                have h2 := fact_valB (dep_of hd 2 (by kernel_rfl) (by kernel_rfl)) (by decide)
                dsimp only [nth] at h2
                replace hK := hk_rowB hbW hK (by decide) (by decide) (by rfl)
                clear hd
                clear hz1
                simp only [lay, Act.put, List.setIfInBounds_toArray, List.set_cons_zero, List.set_cons_succ, h2] at hK ⊢
                obtain ⟨A5, c5, e5, hr5, _⟩ := h0.open_
                simp only [e5, hq0] at hK ⊢
                go_simp
                first
                  | (go_at_call 31; (with_reducible refine (put0_any A5 _ c5 L _ hr5 (by omega)).mono ?_); rintro e w1 ⟨v1, rfl, hown1, hb1⟩; exact hK.out _ _ hown1 hb1)
                  | (go_at_call 31; (with_reducible refine (put_any A6 _ c6 (L ++ uvar 0) nk _ hr6 hR2 (by omega)).mono ?_); rintro e w1 ⟨v1, rfl, hown1, hb1⟩; exact hK.out _ _ hown1 hb1)
              refine OpsOK.cons ?_ ?_
              · intro u W K hB hz0 hz1 hd hK
                have hbW := Nat.le_trans hbW hB.size
                replace hK := hk_valB hK (by decide) (by rfl)
                clear hd
                clear hz1
                simp only [lay, Act.put, List.setIfInBounds_toArray, List.set_cons_zero, List.set_cons_succ] at hK ⊢
                go_simp
                exact hK.out _ _ rfl (Below.refl _ _)
              refine OpsOK.cons ?_ ?_
              · intro u W K hB hz0 hz1 hd hK
                have hbW := Nat.le_trans hbW hB.size
                have h4 := fact_valB (dep_of hd 4 (by kernel_rfl) (by kernel_rfl)) (by decide)
                dsimp only [nth] at h4
                replace hK := hk_valB hK (by decide) (by rfl)
                clear hd
                clear hz1
                simp only [lay, Act.put, List.setIfInBounds_toArray, List.set_cons_zero, List.set_cons_succ, h4] at hK ⊢
                have y0 := (hbx.grown hB hown).at_.1
                go_simp
                exact hK.out _ _ rfl (Below.refl _ _)
              refine OpsOK.cons ?_ ?_
              · intro u W K hB hz0 hz1 hd hK
                have hbW := Nat.le_trans hbW hB.size
                have h5 := fact_valB (dep_of hd 5 (by kernel_rfl) (by kernel_rfl)) (by decide)
                dsimp only [nth] at h5
                replace hK := hk_valB hK (by decide) (by rfl)
                clear hd
                clear hz1
                simp only [lay, Act.put, List.setIfInBounds_toArray, List.set_cons_zero, List.set_cons_succ, h5] at hK ⊢
                go_simp
                exact hK.out _ _ rfl (Below.refl _ _)
              refine OpsOK.cons ?_ ?_
              · intro u W K hB hz0 hz1 hd hK
                have hbW := Nat.le_trans hbW hB.size
                replace hK := hk_valB hK (by decide) (by rfl)
                clear hd
                clear hz1
                simp only [lay, Act.put, List.setIfInBounds_toArray, List.set_cons_zero, List.set_cons_succ] at hK ⊢
                go_simp
                exact hK.out _ _ rfl (Below.refl _ _)
              refine OpsOK.cons ?_ ?_
              · intro u W K hB hz0 hz1 hd hK
                have hbW := Nat.le_trans hbW hB.size
                have h6 := fact_valB (dep_of hd 6 (by kernel_rfl) (by kernel_rfl)) (by decide)
                dsimp only [nth] at h6
                have h7 := fact_valB (dep_of hd 7 (by kernel_rfl) (by kernel_rfl)) (by decide)
                dsimp only [nth] at h7
                replace hK := hk_valB hK (by decide) (by rfl)
                clear hd
                clear hz1
                simp only [lay, Act.put, List.setIfInBounds_toArray, List.set_cons_zero, List.set_cons_succ, h6, h7] at hK ⊢
                go_simp
                exact hK.out _ _ rfl (Below.refl _ _)
              refine OpsOK.cons ?_ ?_
              · intro u W K hB hz0 hz1 hd hK
                have hbW := Nat.le_trans hbW hB.size
                have h8 := fact_valB (dep_of hd 8 (by kernel_rfl) (by kernel_rfl)) (by decide)
                dsimp only [nth] at h8
                replace hK := hk_valB hK (by decide) (by rfl)
                clear hd
                clear hz1
                simp only [lay, Act.put, List.setIfInBounds_toArray, List.set_cons_zero, List.set_cons_succ, h8] at hK ⊢
                go_simp
                exact hK.out _ _ rfl (Below.refl _ _)
              refine OpsOK.cons ?_ ?_
              · intro u W K hB hz0 hz1 hd hK
                have hbW := Nat.le_trans hbW hB.size
                have h3 := fact_rowB (dep_of hd 3 (by kernel_rfl) (by kernel_rfl)) (by decide)
                dsimp only [nth] at h3
                have h9 := fact_valB (dep_of hd 9 (by kernel_rfl) (by kernel_rfl)) (by decide)
                dsimp only [nth] at h9
                replace hK := hk_rowB hbW hK (by decide) (by decide) (by rfl)
                clear hd
                clear hz1
                simp only [lay, Act.put, List.setIfInBounds_toArray, List.set_cons_zero, List.set_cons_succ, h9] at hK ⊢
                obtain ⟨A6, c6, e6, hr6, _⟩ := h3.openN (L.length + (uvar 0).length) (by rw [List.length_append])
                simp only [e6, hwk, hq2] at hK ⊢
                go_simp
                first
                  | (go_at_call 31; (with_reducible refine (put0_any A5 _ c5 L _ hr5 (by omega)).mono ?_); rintro e w1 ⟨v1, rfl, hown1, hb1⟩; exact hK.out _ _ hown1 hb1)
                  | (go_at_call 31; (with_reducible refine (put_any A6 _ c6 (L ++ uvar 0) nk _ hr6 hR2 (by omega)).mono ?_); rintro e w1 ⟨v1, rfl, hown1, hb1⟩; exact hK.out _ _ hown1 hb1)
              refine OpsOK.cons ?_ ?_
              · intro u W K hB hz0 hz1 hd hK
                have hbW := Nat.le_trans hbW hB.size
                have h10 := fact_rowB (dep_of hd 10 (by kernel_rfl) (by kernel_rfl)) (by decide)
                dsimp only [nth] at h10
                replace hK := hk_parB hK (by decide) 10 (by rfl)
                clear hd
                clear hz1
                simp only [lay, Act.put, List.setIfInBounds_toArray, List.set_cons_zero, List.set_cons_succ] at hK ⊢
                go_simp
                exact hK.out _ _ h10 (grown_refl _ _) (AtRow.refl _ _)
              exact OpsOK.nil
            intro u W hB hf
            have h0 := fact_rowB (hf 0 (by decide) (by decide)) (by decide)
            dsimp only [nth] at h0
            have h1 := fact_valB (hf 1 (by decide) (by decide)) (by decide)
            dsimp only [nth] at h1
            have h2 := fact_valB (hf 2 (by decide) (by decide)) (by decide)
            dsimp only [nth] at h2
            have h3 := fact_rowB (hf 3 (by decide) (by decide)) (by decide)
            dsimp only [nth] at h3
            have h4 := fact_valB (hf 4 (by decide) (by decide)) (by decide)
            dsimp only [nth] at h4
            have h5 := fact_valB (hf 5 (by decide) (by decide)) (by decide)
            dsimp only [nth] at h5
            have h6 := fact_valB (hf 6 (by decide) (by decide)) (by decide)
            dsimp only [nth] at h6
            have h7 := fact_valB (hf 7 (by decide) (by decide)) (by decide)
            dsimp only [nth] at h7
            have h8 := fact_valB (hf 8 (by decide) (by decide)) (by decide)
            dsimp only [nth] at h8
            have h9 := fact_valB (hf 9 (by decide) (by decide)) (by decide)
            dsimp only [nth] at h9
            have h11 := fact_rowB (hf 11 (by decide) (by decide)) (by decide)
            dsimp only [nth] at h11
            clear hf
            simp only [lay, h1, h2, h4, h5, h6, h7, h8, h9]
            clear h1 h2 h4 h5 h6 h7 h8 h9
            have hJ1 := hJ0.step hB h11
            have hbx1 := hbx.grown hB hown
            have hL2 : (L ++ uvar 0 ++ uvar nk).length ≤ L.length + 20 := by simp only [List.length_append]; omega
            generalize u 11 = v11 at *
            obtain ⟨L2, hL2e⟩ : ∃ L2, L ++ uvar 0 ++ uvar nk = L2 := ⟨_, rfl⟩
            rw [hL2e] at hL2 hJ1
            have HL2 := hid hL2e
            clear hL2e
            have hown1 := hJ1.1
            have hbW1 := hJ1.2.2.size
            obtain ⟨A4, c4, hcut0, hrb, hc4⟩ := cutB_lo (A := Ak) (lo := 0) a7 (Nat.zero_le _) (0 : Int) rfl
            have hcut : ∀ w, (Instr.slice 23 (.slice Ak nk ck) (some (.int .i64 0)) none none).run Tryd.prog w = .ok (.slice A4 nk c4) w := hcut0
            clear hcut0
            have HRw : Hid (∀ W, Below w.heap.size w W → RB W A4 nk ((eKey x).drop 0)) := hid (fun W hb => hrb _ _ (HKw.out W hb))
            have HBj := hid hJ1.2.2
            clear hrb
            have huS := uvar_len sq
            go_wp2
            apply wp_region_txtB (w.heap.size) 0 (v11.ownBlock) [none, none, none, none, none, none, some 10, none, none, none, none, none, none, none, none, none, none, none, none, none, none, none, none, none, none, none, none, none, none, none, none, none, none, none, none, none, none, none, none, none, none, none, none, none, none, none, none, none, none, none, none, none, none, none, none, none, none, none, none, none, none, none, none, none, none, none, none, none, none, some 0, some 1, some 2, some 3, some 4, some 5, some 6, some 7, some 8, some 9, none, none, none, none, none, none, none, none, none, none, none, none, none, none, none, none, none, none, none, none, none, none, none, none, none, none, none, none, none, none, none, none] [0, 5, 9, 10] [(0, 5), (9, 10)] [undef, _, _, _, _, undef, _, _, _, undef, undef] [_, [], [], [], [], _, [], [], [], _, _]
            case hm => rfl
            case hs => rfl
            case hst => kernel_rfl
            case hrow0 => exact fun k hk => (World.ownsRow.lt hown1 k hk).2
            case hput => exact OpsOK.cons (fun _ _ => rfl) (OpsOK.cons (fun _ _ => rfl) (OpsOK.cons (fun _ _ => rfl) (OpsOK.cons (fun _ _ => rfl) (OpsOK.cons (fun _ _ => rfl) (OpsOK.cons (fun _ _ => rfl) (OpsOK.cons (fun _ _ => rfl) (OpsOK.cons (fun _ _ => rfl) (OpsOK.cons (fun _ _ => rfl) (OpsOK.cons (fun _ _ => rfl) (OpsOK.cons (fun _ _ => rfl) (OpsOK.nil)))))))))))
            case hops =>
              refine OpsOK.cons ?_ ?_
              · intro u W K hB hz0 hz1 hd hK
                have hbW := Nat.le_trans hbW1 hB.size
                replace hK := hk_oldB hK rfl (by decide) (by rfl)
                clear hd
                have hw : u 10 = (v11) := (was_of hz1 10 (by kernel_rfl)).trans rfl
                clear hz1
                simp only [lay, Act.put, List.setIfInBounds_toArray, List.set_cons_zero, List.set_cons_succ, hw] at hK ⊢
                go_simp
                exact hK.out _ (OB.below hown1 (hz0 rfl)) (fun k hk => hk.symm)
              refine OpsOK.cons ?_ ?_
              · intro u W K hB hz0 hz1 hd hK
                have hbW := Nat.le_trans hbW1 hB.size
                replace hK := hk_valB hK (by decide) (by rfl)
                clear hd
                clear hz1
                simp only [lay, Act.put, List.setIfInBounds_toArray, List.set_cons_zero, List.set_cons_succ] at hK ⊢
                go_simp
                exact hK.out _ _ rfl (Below.refl _ _)
              refine OpsOK.cons ?_ ?_
              · intro u W K hB hz0 hz1 hd hK
                have hbW := Nat.le_trans hbW1 hB.size
                have h1 := fact_valB (dep_of hd 1 (by kernel_rfl) (by kernel_rfl)) (by decide)
                dsimp only [nth] at h1
                replace hK := hk_valB hK (by decide) (by rfl)
                clear hd
                clear hz1
                simp only [lay, Act.put, List.setIfInBounds_toArray, List.set_cons_zero, List.set_cons_succ, h1] at hK ⊢
                have y0 := (hbx1.grown hB hown1).at_.1
                go_simp
                exact hK.out _ _ rfl (Below.refl _ _)
              refine OpsOK.cons ?_ ?_
              · intro u W K hB hz0 hz1 hd hK
                have hbW := Nat.le_trans hbW1 hB.size
                replace hK := hk_valB hK (by decide) (by rfl)
                clear hd
                clear hz1
                simp only [lay, Act.put, List.setIfInBounds_toArray, List.set_cons_zero, List.set_cons_succ] at hK ⊢
                go_simp
                exact hK.out _ _ rfl (Below.refl _ _)
              refine OpsOK.cons ?_ ?_
              · intro u W K hB hz0 hz1 hd hK
                have hbW := Nat.le_trans hbW1 hB.size
                have h2 := fact_valB (dep_of hd 2 (by kernel_rfl) (by kernel_rfl)) (by decide)
                dsimp only [nth] at h2
                have h3 := fact_valB (dep_of hd 3 (by kernel_rfl) (by kernel_rfl)) (by decide)
                dsimp only [nth] at h3
                replace hK := hk_valB hK (by decide) (by rfl)
                clear hd
                clear hz1
                simp only [lay, Act.put, List.setIfInBounds_toArray, List.set_cons_zero, List.set_cons_succ, h2, h3] at hK ⊢
                go_simp
                exact hK.out _ _ rfl (Below.refl _ _)
              refine OpsOK.cons ?_ ?_
              · intro u W K hB hz0 hz1 hd hK
                have hbW := Nat.le_trans hbW1 hB.size
                have h0 := fact_rowB (dep_of hd 0 (by kernel_rfl) (by kernel_rfl)) (by decide)
                dsimp only [nth] at h0
                have h4 := fact_valB (dep_of hd 4 (by kernel_rfl) (by kernel_rfl)) (by decide)
                dsimp only [nth] at h4
                replace hK := hk_parB hK (by decide) 0 (by rfl)
                clear hd
                clear hz1
                (refine stepB_append W W w.heap.size (.tmp 69) (.tmp 73) (by rfl) (by rfl) (u 0) L2 (by rfl) h0 A4 nk c4 ((eKey x).drop 0) (by simp only [lay, Act.put, List.setIfInBounds_toArray, List.set_cons_zero, List.set_cons_succ, h4]; rfl) (HRw.out W (Below.grown HBj.out hB hbW1 (OB.base_ hown1))) (by simp only [List.length_drop]; omega) (Below.refl _ _) hbW ?_; intro v' w' a b d f; exact hK.out _ _ (show OB _ _ _ (L2 ++ (eKey x).drop 0) from a) d f)
              refine OpsOK.cons ?_ ?_
              · intro u W K hB hz0 hz1 hd hK
                have hbW := Nat.le_trans hbW1 hB.size
                replace hK := hk_valB hK (by decide) (by rfl)
                clear hd
                clear hz1
                simp only [lay, Act.put, List.setIfInBounds_toArray, List.set_cons_zero, List.set_cons_succ] at hK ⊢
                go_simp
                exact hK.out _ _ rfl (Below.refl _ _)
              refine OpsOK.cons ?_ ?_
              · intro u W K hB hz0 hz1 hd hK
                have hbW := Nat.le_trans hbW1 hB.size
                have h6 := fact_valB (dep_of hd 6 (by kernel_rfl) (by kernel_rfl)) (by decide)
                dsimp only [nth] at h6
                replace hK := hk_valB hK (by decide) (by rfl)
                clear hd
                clear hz1
                simp only [lay, Act.put, List.setIfInBounds_toArray, List.set_cons_zero, List.set_cons_succ, h6] at hK ⊢
                have y0 := (hbx1.grown hB hown1).at_.2.1
                go_simp
                exact hK.out _ _ rfl (Below.refl _ _)
              refine OpsOK.cons ?_ ?_
              · intro u W K hB hz0 hz1 hd hK
                have hbW := Nat.le_trans hbW1 hB.size
                have h7 := fact_valB (dep_of hd 7 (by kernel_rfl) (by kernel_rfl)) (by decide)
                dsimp only [nth] at h7
                replace hK := hk_valB hK (by decide) (by rfl)
                clear hd
                clear hz1
                simp only [lay, Act.put, List.setIfInBounds_toArray, List.set_cons_zero, List.set_cons_succ, h7] at hK ⊢
                go_simp
                exact hK.out _ _ rfl (Below.refl _ _)
              refine OpsOK.cons ?_ ?_
              · intro u W K hB hz0 hz1 hd hK
                have hbW := Nat.le_trans hbW1 hB.size
                have h5 := fact_rowB (dep_of hd 5 (by kernel_rfl) (by kernel_rfl)) (by decide)
                dsimp only [nth] at h5
                have h8 := fact_valB (dep_of hd 8 (by kernel_rfl) (by kernel_rfl)) (by decide)
                dsimp only [nth] at h8
                replace hK := hk_rowB hbW hK (by decide) (by decide) (by rfl)
                clear hd
                clear hz1
                simp only [lay, Act.put, List.setIfInBounds_toArray, List.set_cons_zero, List.set_cons_succ, h8] at hK ⊢
                obtain ⟨A6, c6, e6, hr6, _⟩ := h5.openN (L2.length + nk) (by rw [List.length_append, List.length_drop, hnk] <;> rfl)
                simp only [e6, HSq.out, hq3] at hK ⊢
                go_simp
                first
                  | (go_at_call 31; (with_reducible refine (put_any A6 _ c6 (L2 ++ (eKey x).drop 0) sq _ hr6 hsq2 (by omega)).mono ?_); rintro e w1 ⟨v1, rfl, hown1, hb1⟩; exact hK.out _ _ hown1 hb1)
              refine OpsOK.cons ?_ ?_
              · intro u W K hB hz0 hz1 hd hK
                have hbW := Nat.le_trans hbW1 hB.size
                have h9 := fact_rowB (dep_of hd 9 (by kernel_rfl) (by kernel_rfl)) (by decide)
                dsimp only [nth] at h9
                replace hK := hk_parB hK (by decide) 9 (by rfl)
                clear hd
                clear hz1
                simp only [lay, Act.put, List.setIfInBounds_toArray, List.set_cons_zero, List.set_cons_succ] at hK ⊢
                go_simp
                exact hK.out _ _ h9 (grown_refl _ _) (AtRow.refl _ _)
              exact OpsOK.nil
            intro u W hB hf
            have h1 := fact_valB (hf 1 (by decide) (by decide)) (by decide)
            dsimp only [nth] at h1
            have h2 := fact_valB (hf 2 (by decide) (by decide)) (by decide)
            dsimp only [nth] at h2
            have h3 := fact_valB (hf 3 (by decide) (by decide)) (by decide)
            dsimp only [nth] at h3
            have h4 := fact_valB (hf 4 (by decide) (by decide)) (by decide)
            dsimp only [nth] at h4
            have h5 := fact_rowB (hf 5 (by decide) (by decide)) (by decide)
            dsimp only [nth] at h5
            have h6 := fact_valB (hf 6 (by decide) (by decide)) (by decide)
            dsimp only [nth] at h6
            have h7 := fact_valB (hf 7 (by decide) (by decide)) (by decide)
            dsimp only [nth] at h7
            have h8 := fact_valB (hf 8 (by decide) (by decide)) (by decide)
            dsimp only [nth] at h8
            have h10 := fact_rowB (hf 10 (by decide) (by decide)) (by decide)
            dsimp only [nth] at h10
            clear hf
            simp only [lay, h1, h2, h3, h4, h6, h7, h8]
            clear h1 h2 h3 h4 h6 h7 h8
            have hJ2 := hJ1.step hB h10
            have hbx2 := hbx1.grown hB hown1
            have hL3 : (L2 ++ (eKey x).drop 0 ++ uvar sq).length ≤ L.length + 20 + 522 := by simp only [List.length_append, List.length_drop]; omega
            generalize u 10 = v10 at *
            obtain ⟨L3, hL3e⟩ : ∃ L3, L2 ++ (eKey x).drop 0 ++ uvar sq = L3 := ⟨_, rfl⟩
            rw [hL3e] at hL3 hJ2
            have HHead : Hid (bkHead 0 x L = L3) := hid (by unfold bkHead; rw [hnk, Nat.sub_zero, HL2.out, HSq.out, Int.toNat_natCast]; exact hL3e)
            clear hL3e
            have hown2 := hJ2.1
            have HBj2 := hid hJ2.2.2
            have hbW2 := hJ2.2.2.size
            have hgx := hbx2.at_.2.2.1
            obtain ⟨G, hG⟩ : ∃ G, eGone x = G := ⟨_, rfl⟩
            rw [hG] at hgx
            have HGone := hid hG
            clear hG
            cases G
            · have huT := uvar_len tl
              have huV := uvar_len nv
              go_wp2
              apply wp_region_txtB (w.heap.size) 0 (v10.ownBlock) [none, none, none, none, none, none, some 10, none, none, none, none, none, none, none, none, none, none, none, none, none, none, none, none, none, none, none, none, none, none, none, none, none, none, none, none, none, none, none, none, none, none, none, none, none, none, none, none, none, none, none, none, none, none, none, none, none, none, none, none, none, none, none, none, none, none, none, none, none, none, none, none, none, none, none, none, none, none, none, none, none, none, none, none, none, some 0, some 1, some 2, some 3, some 4, some 5, some 6, some 7, some 8, some 9, none, none, none, none, none, none, none, none, none, none, none, none, none, none, none, none, none] [0, 1, 2, 6, 9, 10] [(0, 2), (9, 10)] [undef, undef, undef, _, _, _, undef, _, _, undef, undef] [_, _, _, [], [], [], _, [], [], _, _]
              case hm => rfl
              case hs => rfl
              case hst => kernel_rfl
              case hrow0 => exact fun k hk => (World.ownsRow.lt hown2 k hk).2
              case hput => exact OpsOK.cons (fun _ _ => rfl) (OpsOK.cons (fun _ _ => rfl) (OpsOK.cons (fun _ _ => rfl) (OpsOK.cons (fun _ _ => rfl) (OpsOK.cons (fun _ _ => rfl) (OpsOK.cons (fun _ _ => rfl) (OpsOK.cons (fun _ _ => rfl) (OpsOK.cons (fun _ _ => rfl) (OpsOK.cons (fun _ _ => rfl) (OpsOK.cons (fun _ _ => rfl) (OpsOK.cons (fun _ _ => rfl) (OpsOK.nil)))))))))))
              case hops =>
                refine OpsOK.cons ?_ ?_
                · intro u W K hB hz0 hz1 hd hK
                  have hbW := Nat.le_trans hbW2 hB.size
                  replace hK := hk_oldB hK rfl (by decide) (by rfl)
                  clear hd
                  have hw : u 10 = (v10) := (was_of hz1 10 (by kernel_rfl)).trans rfl
                  clear hz1
                  simp only [lay, Act.put, List.setIfInBounds_toArray, List.set_cons_zero, List.set_cons_succ, hw] at hK ⊢
                  go_simp
                  exact hK.out _ (OB.below hown2 (hz0 rfl)) (fun k hk => hk.symm)
                refine OpsOK.cons ?_ ?_
                · intro u W K hB hz0 hz1 hd hK
                  have hbW := Nat.le_trans hbW2 hB.size
                  replace hK := hk_rowB hbW hK (by decide) (by decide) (by rfl)
                  clear hd
                  clear hz1
                  simp only [lay, Act.put, List.setIfInBounds_toArray, List.set_cons_zero, List.set_cons_succ] at hK ⊢
                  (go_simp; exact hK.out _ _ (OB.lit1' _ _ (Nat.le_refl _) 0 0 rfl) (below_alloc' (Below.refl _ _) _))
                refine OpsOK.cons ?_ ?_
                · intro u W K hB hz0 hz1 hd hK
                  have hbW := Nat.le_trans hbW2 hB.size
                  have h0 := fact_rowB (dep_of hd 0 (by kernel_rfl) (by kernel_rfl)) (by decide)
                  dsimp only [nth] at h0
                  have h1 := fact_rowB (dep_of hd 1 (by kernel_rfl) (by kernel_rfl)) (by decide)
                  dsimp only [nth] at h1
                  replace hK := hk_parB hK (by decide) 0 (by rfl)
                  clear hd
                  clear hz1
                  (obtain ⟨A7, c7, e7, hr7, _⟩ := h1.open_; refine stepB_append W W w.heap.size (.tmp 84) (.tmp 85) (by rfl) (by rfl) (u 0) L3 (by rfl) h0 A7 _ c7 [0] (by exact e7) hr7 (by simp only [List.length_singleton]; omega) (Below.refl _ _) hbW ?_; intro v' w' a b d f; exact hK.out _ _ (show OB _ _ _ (L3 ++ [0]) from a) d f)
                refine OpsOK.cons ?_ ?_
                · intro u W K hB hz0 hz1 hd hK
                  have hbW := Nat.le_trans hbW2 hB.size
                  replace hK := hk_valB hK (by decide) (by rfl)
                  clear hd
                  clear hz1
                  simp only [lay, Act.put, List.setIfInBounds_toArray, List.set_cons_zero, List.set_cons_succ] at hK ⊢
                  go_simp
                  exact hK.out _ _ rfl (Below.refl _ _)
                refine OpsOK.cons ?_ ?_
                · intro u W K hB hz0 hz1 hd hK
                  have hbW := Nat.le_trans hbW2 hB.size
                  have h3 := fact_valB (dep_of hd 3 (by kernel_rfl) (by kernel_rfl)) (by decide)
                  dsimp only [nth] at h3
                  replace hK := hk_valB hK (by decide) (by rfl)
                  clear hd
                  clear hz1
                  simp only [lay, Act.put, List.setIfInBounds_toArray, List.set_cons_zero, List.set_cons_succ, h3] at hK ⊢
                  have y3 := (hbx2.grown hB hown2).at_.2.2.2.1
                  go_simp
                  exact hK.out _ _ rfl (Below.refl _ _)
                refine OpsOK.cons ?_ ?_
                · intro u W K hB hz0 hz1 hd hK
                  have hbW := Nat.le_trans hbW2 hB.size
                  have h4 := fact_valB (dep_of hd 4 (by kernel_rfl) (by kernel_rfl)) (by decide)
                  dsimp only [nth] at h4
                  replace hK := hk_valB hK (by decide) (by rfl)
                  clear hd
                  clear hz1
                  simp only [lay, Act.put, List.setIfInBounds_toArray, List.set_cons_zero, List.set_cons_succ, h4] at hK ⊢
                  go_simp
                  exact hK.out _ _ rfl (Below.refl _ _)
                refine OpsOK.cons ?_ ?_
                · intro u W K hB hz0 hz1 hd hK
                  have hbW := Nat.le_trans hbW2 hB.size
                  have h2 := fact_rowB (dep_of hd 2 (by kernel_rfl) (by kernel_rfl)) (by decide)
                  dsimp only [nth] at h2
                  have h5 := fact_valB (dep_of hd 5 (by kernel_rfl) (by kernel_rfl)) (by decide)
                  dsimp only [nth] at h5
                  replace hK := hk_rowB hbW hK (by decide) (by decide) (by rfl)
                  clear hd
                  clear hz1
                  simp only [lay, Act.put, List.setIfInBounds_toArray, List.set_cons_zero, List.set_cons_succ, h5] at hK ⊢
                  obtain ⟨A8, c8, e8, hr8, _⟩ := h2.openN (L3.length + 1) (by rw [List.length_append]; rfl)
                  simp only [e8, HTl.out, hq4] at hK ⊢
                  go_simp
                  first
                    | (go_at_call 31; (with_reducible refine (put_any A8 _ c8 (L3 ++ [0]) tl _ hr8 htl2 (by omega)).mono ?_); rintro e w1 ⟨v1, rfl, hown1, hb1⟩; exact hK.out _ _ hown1 hb1)
                    | (go_at_call 30; (with_reducible refine (putbytes_any A9 _ c9 (L3 ++ [0] ++ uvar tl) Av nv cv (eVal x) _ hr9 (HVw.out _ (Below.grown HBj2.out hB hbW2 (OB.base_ hown2))) (by omega)).mono ?_); rintro e w1 ⟨v1, rfl, hown1, hb1⟩; exact hK.out _ _ hown1 hb1)
                refine OpsOK.cons ?_ ?_
                · intro u W K hB hz0 hz1 hd hK
                  have hbW := Nat.le_trans hbW2 hB.size
                  replace hK := hk_valB hK (by decide) (by rfl)
                  clear hd
                  clear hz1
                  simp only [lay, Act.put, List.setIfInBounds_toArray, List.set_cons_zero, List.set_cons_succ] at hK ⊢
                  go_simp
                  exact hK.out _ _ rfl (Below.refl _ _)
                refine OpsOK.cons ?_ ?_
                · intro u W K hB hz0 hz1 hd hK
                  have hbW := Nat.le_trans hbW2 hB.size
                  have h7 := fact_valB (dep_of hd 7 (by kernel_rfl) (by kernel_rfl)) (by decide)
                  dsimp only [nth] at h7
                  replace hK := hk_valB hK (by decide) (by rfl)
                  clear hd
                  clear hz1
                  simp only [lay, Act.put, List.setIfInBounds_toArray, List.set_cons_zero, List.set_cons_succ, h7] at hK ⊢
                  have y4 := (hbx2.grown hB hown2).at_.2.2.2.2
                  go_simp
                  exact hK.out _ _ rfl (Below.refl _ _)
                refine OpsOK.cons ?_ ?_
                · intro u W K hB hz0 hz1 hd hK
                  have hbW := Nat.le_trans hbW2 hB.size
                  have h6 := fact_rowB (dep_of hd 6 (by kernel_rfl) (by kernel_rfl)) (by decide)
                  dsimp only [nth] at h6
                  have h8 := fact_valB (dep_of hd 8 (by kernel_rfl) (by kernel_rfl)) (by decide)
                  dsimp only [nth] at h8
                  replace hK := hk_rowB hbW hK (by decide) (by decide) (by rfl)
                  clear hd
                  clear hz1
                  simp only [lay, Act.put, List.setIfInBounds_toArray, List.set_cons_zero, List.set_cons_succ, h8] at hK ⊢
                  obtain ⟨A9, c9, e9, hr9, _⟩ := h6.openN (L3.length + 1 + (uvar tl).length) (by rw [List.length_append, List.length_append]; rfl)
                  simp only [e9] at hK ⊢
                  go_simp
                  first
                    | (go_at_call 31; (with_reducible refine (put_any A8 _ c8 (L3 ++ [0]) tl _ hr8 htl2 (by omega)).mono ?_); rintro e w1 ⟨v1, rfl, hown1, hb1⟩; exact hK.out _ _ hown1 hb1)
                    | (go_at_call 30; (with_reducible refine (putbytes_any A9 _ c9 (L3 ++ [0] ++ uvar tl) Av nv cv (eVal x) _ hr9 (HVw.out _ (Below.grown HBj2.out hB hbW2 (OB.base_ hown2))) (by omega)).mono ?_); rintro e w1 ⟨v1, rfl, hown1, hb1⟩; exact hK.out _ _ hown1 hb1)
                refine OpsOK.cons ?_ ?_
                · intro u W K hB hz0 hz1 hd hK
                  have hbW := Nat.le_trans hbW2 hB.size
                  have h9 := fact_rowB (dep_of hd 9 (by kernel_rfl) (by kernel_rfl)) (by decide)
                  dsimp only [nth] at h9
                  replace hK := hk_parB hK (by decide) 9 (by rfl)
                  clear hd
                  clear hz1
                  simp only [lay, Act.put, List.setIfInBounds_toArray, List.set_cons_zero, List.set_cons_succ] at hK ⊢
                  go_simp
                  exact hK.out _ _ h9 (grown_refl _ _) (AtRow.refl _ _)
                exact OpsOK.nil
              intro u W hB hf
              have h1 := fact_rowB (hf 1 (by decide) (by decide)) (by decide)
              dsimp only [nth] at h1
              have h2 := fact_rowB (hf 2 (by decide) (by decide)) (by decide)
              dsimp only [nth] at h2
              have h3 := fact_valB (hf 3 (by decide) (by decide)) (by decide)
              dsimp only [nth] at h3
              have h4 := fact_valB (hf 4 (by decide) (by decide)) (by decide)
              dsimp only [nth] at h4
              have h5 := fact_valB (hf 5 (by decide) (by decide)) (by decide)
              dsimp only [nth] at h5
              have h6 := fact_rowB (hf 6 (by decide) (by decide)) (by decide)
              dsimp only [nth] at h6
              have h7 := fact_valB (hf 7 (by decide) (by decide)) (by decide)
              dsimp only [nth] at h7
              have h8 := fact_valB (hf 8 (by decide) (by decide)) (by decide)
              dsimp only [nth] at h8
              have h10 := fact_rowB (hf 10 (by decide) (by decide)) (by decide)
              dsimp only [nth] at h10
              clear hf
              simp only [lay, h3, h4, h5, h7, h8]
              clear h3 h4 h5 h7 h8
              have hJ3 := hJ2.step hB h10
              go_wp2
              go_roundw
              case rel => exact ⟨j + 1, by omega, by go_num, by rw [HAcc.out, HSt2.out, HHead.out, bkTail_false HGone.out, HTl.out, Int.toNat_natCast]; exact hJ3⟩
              case measure => simp [intOf]; omega
            · go_wp2_with (at_builtin; refine wpB_append1 w _ w.heap.size rfl (.tmp 81) (.tmp 82) rfl v10 L3 rfl hown2 1 1 rfl 1 rfl (by omega) hJ2.2.2 hbW2 ?_; intro v2 w2 hown3 hB3 hg3 _)
              have hJ3 := hJ2.step hg3 hown3
              go_roundw
              case rel => exact ⟨j + 1, by omega, by go_num, by rw [HAcc.out, HSt2.out, HHead.out, bkTail_true HGone.out]; exact hJ3⟩
              case measure => simp [intOf]; omega
          · have hm8 : ((j : Int) % 8 == 0) = false := by rw [beq_eq_false_iff_ne]; omega
            have HSt2 : Hid (stK es (j + 1) = zs) := hid (by rw [HSt.out, if_neg h8])
            obtain ⟨Bk, mk, dk, Bv, mv, dv, b0, b1, b2, b3, b4, b5, b6, _, _⟩ := (HEn1.out (by omega)).below hJ0.2.2
            have HPk := hid b5
            obtain ⟨i, hi⟩ : ∃ i, j - 1 = i := ⟨_, rfl⟩
            have hkm : (j : Int) - 1 = (i : Int) := by omega
            have hws : IntKind.i64.wrap (i : Int) = (i : Int) := by rw [IntKind.wrap_i64]; omega
            have hik : i < k := by omega
            have hN1 : NN = cmnB (eKey (elt noEnt es (j - 1))) (eKey x) := by rw [HSn.out, if_neg h8]
            rw [hi] at b0 hN1 HPk
            generalize elt noEnt es i = y at *
            have HN1 := hid hN1
            clear h8
            clear b1 b2 b3 b4 b5 b6 hi hN1
            go_wp2
            generalize wr.alloc (.cells #[.slice Ak nk ck, .int .i64 (eSeq x), .bool (eGone x), .int .i64 (eTil x), .slice Av nv cv] 29) = W0 at *
            generalize wr.heap.size = b at *
            have hc0 := hbx.at_.1
            have hB0w := hJ0.2.2
            apply wp_region_txt [none, none, none, none, none, none, none, none, none, none, some 9, none, none, none, none, none, none, none, none, none, none, none, none, none, none, none, none, none, none, none, none, none, none, none, none, none, none, none, none, none, none, none, none, none, none, none, none, none, none, some 0, some 1, some 2, some 3, some 4, some 5, some 6, some 7, some 8, none, none, none, none, none, none, none, none, none, none, none, none, none, none, none, none, none, none, none, none, none, none, none, none, none, none, none, none, none, none, none, none, none, none, none, none, none, none, none, none, none, none, none, none, none, none, none, none, none, none, none, none, none] [] [] [_, _, _, _, _, _, _, _, _, _] [[], [], [], [], [], [], [], [], [], []]
            case hm => rfl
            case hs => rfl
            case hst => kernel_rfl
            case hput => exact OpsOK.cons (fun _ _ => rfl) (OpsOK.cons (fun _ _ => rfl) (OpsOK.cons (fun _ _ => rfl) (OpsOK.cons (fun _ _ => rfl) (OpsOK.cons (fun _ _ => rfl) (OpsOK.cons (fun _ _ => rfl) (OpsOK.cons (fun _ _ => rfl) (OpsOK.cons (fun _ _ => rfl) (OpsOK.cons (fun _ _ => rfl) (OpsOK.cons (fun _ _ => rfl) (OpsOK.nil))))))))))
            case hops =>
              refine OpsOK.cons ?_ ?_
              · intro u W K hB hd hK
                replace hK := hk_val hK (by decide) (by rfl)
                clear hd
                simp only [lay, Act.put, List.setIfInBounds_toArray, List.set_cons_zero, List.set_cons_succ] at hK ⊢
                go_simp
                exact hK.out _ _ rfl (Below.refl _ _)
              refine OpsOK.cons ?_ ?_
              · intro u W K hB hd hK
                replace hK := hk_val hK (by decide) (by rfl)
                clear hd
                simp only [lay, Act.put, List.setIfInBounds_toArray, List.set_cons_zero, List.set_cons_succ] at hK ⊢
                go_simp
                exact hK.out _ _ rfl (Below.refl _ _)
              refine OpsOK.cons ?_ ?_
              · intro u W K hB hd hK
                have h1 := fact_val (dep_of hd 1 (by kernel_rfl) (by kernel_rfl)) (by decide)
                dsimp only [nth] at h1
                replace hK := hk_val hK (by decide) (by rfl)
                clear hd
                simp only [lay, Act.put, List.setIfInBounds_toArray, List.set_cons_zero, List.set_cons_succ, h1] at hK ⊢
                go_simp
                exact hK.out _ _ rfl (Below.refl _ _)
              refine OpsOK.cons ?_ ?_
              · intro u W K hB hd hK
                have h0 := fact_val (dep_of hd 0 (by kernel_rfl) (by kernel_rfl)) (by decide)
                dsimp only [nth] at h0
                have h2 := fact_val (dep_of hd 2 (by kernel_rfl) (by kernel_rfl)) (by decide)
                dsimp only [nth] at h2
                replace hK := hk_val hK (by decide) (by rfl)
                clear hd
                simp only [lay, Act.put, List.setIfInBounds_toArray, List.set_cons_zero, List.set_cons_succ, h0, h2] at hK ⊢
                go_simp
                exact hK.out _ _ rfl (Below.refl _ _)
              refine OpsOK.cons ?_ ?_
              · intro u W K hB hd hK
                have h3 := fact_val (dep_of hd 3 (by kernel_rfl) (by kernel_rfl)) (by decide)
                dsimp only [nth] at h3
                replace hK := hk_val hK (by decide) (by rfl)
                clear hd
                simp only [lay, Act.put, List.setIfInBounds_toArray, List.set_cons_zero, List.set_cons_succ, h3] at hK ⊢
                go_simp
                exact hK.out _ _ rfl (Below.refl _ _)
              refine OpsOK.cons ?_ ?_
              · intro u W K hB hd hK
                have h4 := fact_val (dep_of hd 4 (by kernel_rfl) (by kernel_rfl)) (by decide)
                dsimp only [nth] at h4
                replace hK := hk_val hK (by decide) (by rfl)
                clear hd
                simp only [lay, Act.put, List.setIfInBounds_toArray, List.set_cons_zero, List.set_cons_succ, h4] at hK ⊢
                have y0 := below_cell hB b0
                go_simp
                exact hK.out _ _ rfl (Below.refl _ _)
              refine OpsOK.cons ?_ ?_
              · intro u W K hB hd hK
                replace hK := hk_val hK (by decide) (by rfl)
                clear hd
                simp only [lay, Act.put, List.setIfInBounds_toArray, List.set_cons_zero, List.set_cons_succ] at hK ⊢
                go_simp
                exact hK.out _ _ rfl (Below.refl _ _)
              refine OpsOK.cons ?_ ?_
              · intro u W K hB hd hK
                have h6 := fact_val (dep_of hd 6 (by kernel_rfl) (by kernel_rfl)) (by decide)
                dsimp only [nth] at h6
                replace hK := hk_val hK (by decide) (by rfl)
                clear hd
                simp only [lay, Act.put, List.setIfInBounds_toArray, List.set_cons_zero, List.set_cons_succ, h6] at hK ⊢
                have y0 := below_cell hB hc0
                go_simp
                exact hK.out _ _ rfl (Below.refl _ _)
              refine OpsOK.cons ?_ ?_
              · intro u W K hB hd hK
                have h5 := fact_val (dep_of hd 5 (by kernel_rfl) (by kernel_rfl)) (by decide)
                dsimp only [nth] at h5
                have h7 := fact_val (dep_of hd 7 (by kernel_rfl) (by kernel_rfl)) (by decide)
                dsimp only [nth] at h7
                replace hK := hk_val hK (by decide) (by rfl)
                clear hd
                simp only [lay, Act.put, List.setIfInBounds_toArray, List.set_cons_zero, List.set_cons_succ, h5, h7] at hK ⊢
                go_simp
                first
                  | (go_at_call 50; (with_reducible refine (shared_any Bk mk dk (eKey y) Ak nk ck (eKey x) _ (HPk.out.below hB) (HKw.out _ (below_then hB0w hB))).mono ?_); rintro e w1 ⟨rfl, hb⟩; rw [← HN1.out]; exact hK.out _ _ rfl hb)
              refine OpsOK.cons ?_ ?_
              · intro u W K hB hd hK
                have h8 := fact_val (dep_of hd 8 (by kernel_rfl) (by kernel_rfl)) (by decide)
                dsimp only [nth] at h8
                replace hK := hk_val hK (by decide) (by rfl)
                clear hd
                simp only [lay, Act.put, List.setIfInBounds_toArray, List.set_cons_zero, List.set_cons_succ, h8] at hK ⊢
                go_simp
                exact hK.out _ _ rfl (Below.refl _ _)
              exact OpsOK.nil
            intro u W hB hf
            have h0 := fact_val (hf 0 (by decide) (by decide)) (by decide)
            dsimp only [nth] at h0
            have h1 := fact_val (hf 1 (by decide) (by decide)) (by decide)
            dsimp only [nth] at h1
            have h2 := fact_val (hf 2 (by decide) (by decide)) (by decide)
            dsimp only [nth] at h2
            have h3 := fact_val (hf 3 (by decide) (by decide)) (by decide)
            dsimp only [nth] at h3
            have h4 := fact_val (hf 4 (by decide) (by decide)) (by decide)
            dsimp only [nth] at h4
            have h5 := fact_val (hf 5 (by decide) (by decide)) (by decide)
            dsimp only [nth] at h5
            have h6 := fact_val (hf 6 (by decide) (by decide)) (by decide)
            dsimp only [nth] at h6
            have h7 := fact_val (hf 7 (by decide) (by decide)) (by decide)
            dsimp only [nth] at h7
            have h8 := fact_val (hf 8 (by decide) (by decide)) (by decide)
            dsimp only [nth] at h8
            have h9 := fact_val (hf 9 (by decide) (by decide)) (by decide)
            dsimp only [nth] at h9
            clear hf
            simp only [lay, h0, h1, h2, h3, h4, h5, h6, h7, h8, h9]
            clear h0 h1 h2 h3 h4 h5 h6 h7 h8 h9
            have hbx := blk_below hB hbx
            have hbx : EnBx W b Ak nk ck x Av nv cv := hbx
            have hJ0 := hJ0.below hB
            clear hc0 HPk HN1
            have hbW := hJ0.2.2.size
            have hown := hJ0.1
            have huN := uvar_len NN
            obtain ⟨RR, hRR⟩ : ∃ RR : Nat, (nk : Int) - (NN : Int) = (RR : Int) := ⟨nk - NN, by omega⟩
            have hRe : nk - NN = RR := by omega
            have hR2 : RR < 18446744073709551616 := by omega
            have huR := uvar_len RR
            have hwR : IntKind.i64.wrap (RR : Int) = (RR : Int) := by rw [IntKind.wrap_i64]; omega
            have hN2 : NN < 18446744073709551616 := by omega
            have hq1 := wrap_u64_nat' NN hN2
            have hq2 := wrap_u64_nat' RR hR2
            have hq3 := wrap_u64_nat' sq hsq2
            have hq4 := wrap_u64_nat' tl htl2
            go_wp2
            apply wp_region_txtB (w.heap.size) 0 ((Value.slice Ao L.length co).ownBlock) [none, none, none, none, none, none, some 11, none, none, none, none, none, none, none, none, none, none, none, none, none, none, none, none, none, none, none, none, none, none, none, none, none, none, none, none, none, none, none, none, none, none, none, none, none, none, none, none, none, none, none, none, none, none, none, none, none, none, none, some 0, some 1, some 2, some 3, some 4, some 5, some 6, some 7, some 8, some 9, some 10, none, none, none, none, none, none, none, none, none, none, none, none, none, none, none, none, none, none, none, none, none, none, none, none, none, none, none, none, none, none, none, none, none, none, none, none, none, none, none, none, none, none] [0, 3, 10, 11] [(10, 11)] [undef, _, _, undef, _, _, _, _, _, _, undef, undef] [_, [], [], _, [], [], [], [], [], [], _, _]
            case hm => rfl
            case hs => rfl
            case hst => kernel_rfl
            case hrow0 => exact fun k hk => (World.ownsRow.lt hown k hk).2
            case hput => exact OpsOK.cons (fun _ _ => rfl) (OpsOK.cons (fun _ _ => rfl) (OpsOK.cons (fun _ _ => rfl) (OpsOK.cons (fun _ _ => rfl) (OpsOK.cons (fun _ _ => rfl) (OpsOK.cons (fun _ _ => rfl) (OpsOK.cons (fun _ _ => rfl) (OpsOK.cons (fun _ _ => rfl) (OpsOK.cons (fun _ _ => rfl) (OpsOK.cons (fun _ _ => rfl) (OpsOK.cons (fun _ _ => rfl) (OpsOK.cons (fun _ _ => rfl) (OpsOK.nil))))))))))))
            case hops =>
              refine OpsOK.cons ?_ ?_
              · intro u W K hB hz0 hz1 hd hK
                have hbW := Nat.le_trans hbW hB.size
                replace hK := hk_oldB hK rfl (by decide) (by rfl)
                clear hd
                have hw : u 11 = ((Value.slice Ao L.length co)) := (was_of hz1 11 (by kernel_rfl)).trans rfl
                clear hz1
                simp only [lay, Act.put, List.setIfInBounds_toArray, List.set_cons_zero, List.set_cons_succ, hw] at hK ⊢
                go_simp
                exact hK.out _ (OB.below hown (hz0 rfl)) (fun k hk => hk.symm)
              refine OpsOK.cons ?_ ?_
              · intro u W K hB hz0 hz1 hd hK
                have hbW := Nat.le_trans hbW hB.size
                replace hK := hk_valB hK (by decide) (by rfl)
                clear hd
                clear hz1
                simp only [lay, Act.put, List.setIfInBounds_toArray, List.set_cons_zero, List.set_cons_succ] at hK ⊢
                go_simp
                exact hK.out _ _ rfl (Below.refl _ _)
              refine OpsOK.cons ?_ ?_
              · intro u W K hB hz0 hz1 hd hK
                have hbW := Nat.le_trans hbW hB.size
                have h1 := fact_valB (dep_of hd 1 (by kernel_rfl) (by kernel_rfl)) (by decide)
                dsimp only [nth] at h1
                replace hK := hk_valB hK (by decide) (by rfl)
                clear hd
                clear hz1
                simp only [lay, Act.put, List.setIfInBounds_toArray, List.set_cons_zero, List.set_cons_succ, h1] at hK ⊢
                go_simp
                exact hK.out _ _ rfl (Below.refl _ _)
              refine OpsOK.cons ?_ ?_
              · intro u W K hB hz0 hz1 hd hK
                have hbW := Nat.le_trans hbW hB.size
                have h0 := fact_rowB (dep_of hd 0 (by kernel_rfl) (by kernel_rfl)) (by decide)
                dsimp only [nth] at h0
                have h2 := fact_valB (dep_of hd 2 (by kernel_rfl) (by kernel_rfl)) (by decide)
                dsimp only [nth] at h2
                replace hK := hk_rowB hbW hK (by decide) (by decide) (by rfl)
                clear hd
                clear hz1
                simp only [lay, Act.put, List.setIfInBounds_toArray, List.set_cons_zero, List.set_cons_succ, h2] at hK ⊢
                obtain ⟨A5, c5, e5, hr5, _⟩ := h0.open_
                simp only [e5, hq1] at hK ⊢
                go_simp
                first
                  | (go_at_call 31; (with_reducible refine (put_any A5 _ c5 L NN _ hr5 hN2 (by omega)).mono ?_); rintro e w1 ⟨v1, rfl, hown1, hb1⟩; exact hK.out _ _ hown1 hb1)
                  | (go_at_call 31; (with_reducible refine (put_any A6 _ c6 (L ++ uvar NN) RR _ hr6 hR2 (by omega)).mono ?_); rintro e w1 ⟨v1, rfl, hown1, hb1⟩; exact hK.out _ _ hown1 hb1)
              refine OpsOK.cons ?_ ?_
              · intro u W K hB hz0 hz1 hd hK
                have hbW := Nat.le_trans hbW hB.size
                replace hK := hk_valB hK (by decide) (by rfl)
                clear hd
                clear hz1
                simp only [lay, Act.put, List.setIfInBounds_toArray, List.set_cons_zero, List.set_cons_succ] at hK ⊢
                go_simp
                exact hK.out _ _ rfl (Below.refl _ _)
              refine OpsOK.cons ?_ ?_
              · intro u W K hB hz0 hz1 hd hK
                have hbW := Nat.le_trans hbW hB.size
                have h4 := fact_valB (dep_of hd 4 (by kernel_rfl) (by kernel_rfl)) (by decide)
                dsimp only [nth] at h4
                replace hK := hk_valB hK (by decide) (by rfl)
                clear hd
                clear hz1
                simp only [lay, Act.put, List.setIfInBounds_toArray, List.set_cons_zero, List.set_cons_succ, h4] at hK ⊢
                have y0 := (hbx.grown hB hown).at_.1
                go_simp
                exact hK.out _ _ rfl (Below.refl _ _)
              refine OpsOK.cons ?_ ?_
              · intro u W K hB hz0 hz1 hd hK
                have hbW := Nat.le_trans hbW hB.size
                have h5 := fact_valB (dep_of hd 5 (by kernel_rfl) (by kernel_rfl)) (by decide)
                dsimp only [nth] at h5
                replace hK := hk_valB hK (by decide) (by rfl)
                clear hd
                clear hz1
                simp only [lay, Act.put, List.setIfInBounds_toArray, List.set_cons_zero, List.set_cons_succ, h5] at hK ⊢
                go_simp
                exact hK.out _ _ rfl (Below.refl _ _)
              refine OpsOK.cons ?_ ?_
              · intro u W K hB hz0 hz1 hd hK
                have hbW := Nat.le_trans hbW hB.size
                replace hK := hk_valB hK (by decide) (by rfl)
                clear hd
                clear hz1
                simp only [lay, Act.put, List.setIfInBounds_toArray, List.set_cons_zero, List.set_cons_succ] at hK ⊢
                go_simp
                exact hK.out _ _ rfl (Below.refl _ _)
              refine OpsOK.cons ?_ ?_
              · intro u W K hB hz0 hz1 hd hK
                have hbW := Nat.le_trans hbW hB.size
                have h6 := fact_valB (dep_of hd 6 (by kernel_rfl) (by kernel_rfl)) (by decide)
                dsimp only [nth] at h6
                have h7 := fact_valB (dep_of hd 7 (by kernel_rfl) (by kernel_rfl)) (by decide)
                dsimp only [nth] at h7
                replace hK := hk_valB hK (by decide) (by rfl)
                clear hd
                clear hz1
                simp only [lay, Act.put, List.setIfInBounds_toArray, List.set_cons_zero, List.set_cons_succ, h6, h7] at hK ⊢
                go_simp
                exact hK.out _ _ rfl (Below.refl _ _)
              refine OpsOK.cons ?_ ?_
              · intro u W K hB hz0 hz1 hd hK
                have hbW := Nat.le_trans hbW hB.size
                have h8 := fact_valB (dep_of hd 8 (by kernel_rfl) (by kernel_rfl)) (by decide)
                dsimp only [nth] at h8
                replace hK := hk_valB hK (by decide) (by rfl)
                clear hd
                clear hz1
                simp only [lay, Act.put, List.setIfInBounds_toArray, List.set_cons_zero, List.set_cons_succ, h8] at hK ⊢
                go_simp
                exact hK.out _ _ rfl (Below.refl _ _)
              refine OpsOK.cons ?_ ?_
              · intro u W K hB hz0 hz1 hd hK
                have hbW := Nat.le_trans hbW hB.size
                have h3 := fact_rowB (dep_of hd 3 (by kernel_rfl) (by kernel_rfl)) (by decide)
                dsimp only [nth] at h3
                have h9 := fact_valB (dep_of hd 9 (by kernel_rfl) (by kernel_rfl)) (by decide)
                dsimp only [nth] at h9
                replace hK := hk_rowB hbW hK (by decide) (by decide) (by rfl)
                clear hd
                clear hz1
                simp only [lay, Act.put, List.setIfInBounds_toArray, List.set_cons_zero, List.set_cons_succ, h9] at hK ⊢
                obtain ⟨A6, c6, e6, hr6, _⟩ := h3.openN (L.length + (uvar NN).length) (by rw [List.length_append])
                simp only [e6, hRR, hwR, hq2] at hK ⊢
                go_simp
                first
                  | (go_at_call 31; (with_reducible refine (put_any A5 _ c5 L NN _ hr5 hN2 (by omega)).mono ?_); rintro e w1 ⟨v1, rfl, hown1, hb1⟩; exact hK.out _ _ hown1 hb1)
                  | (go_at_call 31; (with_reducible refine (put_any A6 _ c6 (L ++ uvar NN) RR _ hr6 hR2 (by omega)).mono ?_); rintro e w1 ⟨v1, rfl, hown1, hb1⟩; exact hK.out _ _ hown1 hb1)
              refine OpsOK.cons ?_ ?_
              · intro u W K hB hz0 hz1 hd hK
                have hbW := Nat.le_trans hbW hB.size
                have h10 := fact_rowB (dep_of hd 10 (by kernel_rfl) (by kernel_rfl)) (by decide)
                dsimp only [nth] at h10
                replace hK := hk_parB hK (by decide) 10 (by rfl)
                clear hd
                clear hz1
                simp only [lay, Act.put, List.setIfInBounds_toArray, List.set_cons_zero, List.set_cons_succ] at hK ⊢
                go_simp
                exact hK.out _ _ h10 (grown_refl _ _) (AtRow.refl _ _)
              exact OpsOK.nil
            intro u W hB hf
            have h0 := fact_rowB (hf 0 (by decide) (by decide)) (by decide)
            dsimp only [nth] at h0
            have h1 := fact_valB (hf 1 (by decide) (by decide)) (by decide)
            dsimp only [nth] at h1
            have h2 := fact_valB (hf 2 (by decide) (by decide)) (by decide)
            dsimp only [nth] at h2
            have h3 := fact_rowB (hf 3 (by decide) (by decide)) (by decide)
            dsimp only [nth] at h3
            have h4 := fact_valB (hf 4 (by decide) (by decide)) (by decide)
            dsimp only [nth] at h4
            have h5 := fact_valB (hf 5 (by decide) (by decide)) (by decide)
            dsimp only [nth] at h5
            have h6 := fact_valB (hf 6 (by decide) (by decide)) (by decide)
            dsimp only [nth] at h6
            have h7 := fact_valB (hf 7 (by decide) (by decide)) (by decide)
            dsimp only [nth] at h7
            have h8 := fact_valB (hf 8 (by decide) (by decide)) (by decide)
            dsimp only [nth] at h8
            have h9 := fact_valB (hf 9 (by decide) (by decide)) (by decide)
            dsimp only [nth] at h9
            have h11 := fact_rowB (hf 11 (by decide) (by decide)) (by decide)
            dsimp only [nth] at h11
            clear hf
            simp only [lay, h1, h2, h4, h5, h6, h7, h8, h9]
            clear h1 h2 h4 h5 h6 h7 h8 h9
            have hJ1 := hJ0.step hB h11
            have hbx1 := hbx.grown hB hown
            have hL2 : (L ++ uvar NN ++ uvar RR).length ≤ L.length + 20 := by simp only [List.length_append]; omega
            generalize u 11 = v11 at *
            obtain ⟨L2, hL2e⟩ : ∃ L2, L ++ uvar NN ++ uvar RR = L2 := ⟨_, rfl⟩
            rw [hL2e] at hL2 hJ1
            have HL2 := hid hL2e
            clear hL2e
            have hown1 := hJ1.1
            have hbW1 := hJ1.2.2.size
            obtain ⟨A4, c4, hcut, hrb, hc4⟩ := cutB_lo (A := Ak) a7 hsh (NN : Int) rfl
            simp only [hRe] at hcut hrb hc4
            have HRw : Hid (∀ W, Below w.heap.size w W → RB W A4 RR ((eKey x).drop NN)) := hid (fun W hb => hrb _ _ (HKw.out W hb))
            have HBj := hid hJ1.2.2
            clear hrb
            have huS := uvar_len sq
            go_wp2
            apply wp_region_txtB (w.heap.size) 0 (v11.ownBlock) [none, none, none, none, none, none, some 10, none, none, none, none, none, none, none, none, none, none, none, none, none, none, none, none, none, none, none, none, none, none, none, none, none, none, none, none, none, none, none, none, none, none, none, none, none, none, none, none, none, none, none, none, none, none, none, none, none, none, none, none, none, none, none, none, none, none, none, none, none, none, some 0, some 1, some 2, some 3, some 4, some 5, some 6, some 7, some 8, some 9, none, none, none, none, none, none, none, none, none, none, none, none, none, none, none, none, none, none, none, none, none, none, none, none, none, none, none, none, none, none, none, none] [0, 5, 9, 10] [(0, 5), (9, 10)] [undef, _, _, _, _, undef, _, _, _, undef, undef] [_, [], [], [], [], _, [], [], [], _, _]
            case hm => rfl
            case hs => rfl
            case hst => kernel_rfl
            case hrow0 => exact fun k hk => (World.ownsRow.lt hown1 k hk).2
            case hput => exact OpsOK.cons (fun _ _ => rfl) (OpsOK.cons (fun _ _ => rfl) (OpsOK.cons (fun _ _ => rfl) (OpsOK.cons (fun _ _ => rfl) (OpsOK.cons (fun _ _ => rfl) (OpsOK.cons (fun _ _ => rfl) (OpsOK.cons (fun _ _ => rfl) (OpsOK.cons (fun _ _ => rfl) (OpsOK.cons (fun _ _ => rfl) (OpsOK.cons (fun _ _ => rfl) (OpsOK.cons (fun _ _ => rfl) (OpsOK.nil)))))))))))
            case hops =>
              refine OpsOK.cons ?_ ?_
              · intro u W K hB hz0 hz1 hd hK
                have hbW := Nat.le_trans hbW1 hB.size
                replace hK := hk_oldB hK rfl (by decide) (by rfl)
                clear hd
                have hw : u 10 = (v11) := (was_of hz1 10 (by kernel_rfl)).trans rfl
                clear hz1
                simp only [lay, Act.put, List.setIfInBounds_toArray, List.set_cons_zero, List.set_cons_succ, hw] at hK ⊢
                go_simp
                exact hK.out _ (OB.below hown1 (hz0 rfl)) (fun k hk => hk.symm)
              refine OpsOK.cons ?_ ?_
              · intro u W K hB hz0 hz1 hd hK
                have hbW := Nat.le_trans hbW1 hB.size
                replace hK := hk_valB hK (by decide) (by rfl)
                clear hd
                clear hz1
                simp only [lay, Act.put, List.setIfInBounds_toArray, List.set_cons_zero, List.set_cons_succ] at hK ⊢
                go_simp
                exact hK.out _ _ rfl (Below.refl _ _)
              refine OpsOK.cons ?_ ?_
              · intro u W K hB hz0 hz1 hd hK
                have hbW := Nat.le_trans hbW1 hB.size
                have h1 := fact_valB (dep_of hd 1 (by kernel_rfl) (by kernel_rfl)) (by decide)
                dsimp only [nth] at h1
                replace hK := hk_valB hK (by decide) (by rfl)
                clear hd
                clear hz1
                simp only [lay, Act.put, List.setIfInBounds_toArray, List.set_cons_zero, List.set_cons_succ, h1] at hK ⊢
                have y0 := (hbx1.grown hB hown1).at_.1
                go_simp
                exact hK.out _ _ rfl (Below.refl _ _)
              refine OpsOK.cons ?_ ?_
              · intro u W K hB hz0 hz1 hd hK
                have hbW := Nat.le_trans hbW1 hB.size
                replace hK := hk_valB hK (by decide) (by rfl)
                clear hd
                clear hz1
                simp only [lay, Act.put, List.setIfInBounds_toArray, List.set_cons_zero, List.set_cons_succ] at hK ⊢
                go_simp
                exact hK.out _ _ rfl (Below.refl _ _)
              refine OpsOK.cons ?_ ?_
              · intro u W K hB hz0 hz1 hd hK
                have hbW := Nat.le_trans hbW1 hB.size
                have h2 := fact_valB (dep_of hd 2 (by kernel_rfl) (by kernel_rfl)) (by decide)
                dsimp only [nth] at h2
                have h3 := fact_valB (dep_of hd 3 (by kernel_rfl) (by kernel_rfl)) (by decide)
                dsimp only [nth] at h3
                replace hK := hk_valB hK (by decide) (by rfl)
                clear hd
                clear hz1
                simp only [lay, Act.put, List.setIfInBounds_toArray, List.set_cons_zero, List.set_cons_succ, h2, h3] at hK ⊢
                go_simp
                exact hK.out _ _ rfl (Below.refl _ _)
              refine OpsOK.cons ?_ ?_
              · intro u W K hB hz0 hz1 hd hK
                have hbW := Nat.le_trans hbW1 hB.size
                have h0 := fact_rowB (dep_of hd 0 (by kernel_rfl) (by kernel_rfl)) (by decide)
                dsimp only [nth] at h0
                have h4 := fact_valB (dep_of hd 4 (by kernel_rfl) (by kernel_rfl)) (by decide)
                dsimp only [nth] at h4
                replace hK := hk_parB hK (by decide) 0 (by rfl)
                clear hd
                clear hz1
                (refine stepB_append W W w.heap.size (.tmp 69) (.tmp 73) (by rfl) (by rfl) (u 0) L2 (by rfl) h0 A4 RR c4 ((eKey x).drop NN) (by simp only [lay, Act.put, List.setIfInBounds_toArray, List.set_cons_zero, List.set_cons_succ, h4]; rfl) (HRw.out W (Below.grown HBj.out hB hbW1 (OB.base_ hown1))) (by simp only [List.length_drop]; omega) (Below.refl _ _) hbW ?_; intro v' w' a b d f; exact hK.out _ _ (show OB _ _ _ (L2 ++ (eKey x).drop NN) from a) d f)
              refine OpsOK.cons ?_ ?_
              · intro u W K hB hz0 hz1 hd hK
                have hbW := Nat.le_trans hbW1 hB.size
                replace hK := hk_valB hK (by decide) (by rfl)
                clear hd
                clear hz1
                simp only [lay, Act.put, List.setIfInBounds_toArray, List.set_cons_zero, List.set_cons_succ] at hK ⊢
                go_simp
                exact hK.out _ _ rfl (Below.refl _ _)
              refine OpsOK.cons ?_ ?_
              · intro u W K hB hz0 hz1 hd hK
                have hbW := Nat.le_trans hbW1 hB.size
                have h6 := fact_valB (dep_of hd 6 (by kernel_rfl) (by kernel_rfl)) (by decide)
                dsimp only [nth] at h6
                replace hK := hk_valB hK (by decide) (by rfl)
                clear hd
                clear hz1
                simp only [lay, Act.put, List.setIfInBounds_toArray, List.set_cons_zero, List.set_cons_succ, h6] at hK ⊢
                have y0 := (hbx1.grown hB hown1).at_.2.1
                go_simp
                exact hK.out _ _ rfl (Below.refl _ _)
              refine OpsOK.cons ?_ ?_
              · intro u W K hB hz0 hz1 hd hK
                have hbW := Nat.le_trans hbW1 hB.size
                have h7 := fact_valB (dep_of hd 7 (by kernel_rfl) (by kernel_rfl)) (by decide)
                dsimp only [nth] at h7
                replace hK := hk_valB hK (by decide) (by rfl)
                clear hd
                clear hz1
                simp only [lay, Act.put, List.setIfInBounds_toArray, List.set_cons_zero, List.set_cons_succ, h7] at hK ⊢
                go_simp
                exact hK.out _ _ rfl (Below.refl _ _)
              refine OpsOK.cons ?_ ?_
              · intro u W K hB hz0 hz1 hd hK
                have hbW := Nat.le_trans hbW1 hB.size
                have h5 := fact_rowB (dep_of hd 5 (by kernel_rfl) (by kernel_rfl)) (by decide)
                dsimp only [nth] at h5
                have h8 := fact_valB (dep_of hd 8 (by kernel_rfl) (by kernel_rfl)) (by decide)
                dsimp only [nth] at h8
                replace hK := hk_rowB hbW hK (by decide) (by decide) (by rfl)
                clear hd
                clear hz1
                simp only [lay, Act.put, List.setIfInBounds_toArray, List.set_cons_zero, List.set_cons_succ, h8] at hK ⊢
                obtain ⟨A6, c6, e6, hr6, _⟩ := h5.openN (L2.length + RR) (by rw [List.length_append, List.length_drop, hnk, hRe] <;> rfl)
                simp only [e6, HSq.out, hq3] at hK ⊢
                go_simp
                first
                  | (go_at_call 31; (with_reducible refine (put_any A6 _ c6 (L2 ++ (eKey x).drop NN) sq _ hr6 hsq2 (by omega)).mono ?_); rintro e w1 ⟨v1, rfl, hown1, hb1⟩; exact hK.out _ _ hown1 hb1)
              refine OpsOK.cons ?_ ?_
              · intro u W K hB hz0 hz1 hd hK
                have hbW := Nat.le_trans hbW1 hB.size
                have h9 := fact_rowB (dep_of hd 9 (by kernel_rfl) (by kernel_rfl)) (by decide)
                dsimp only [nth] at h9
                replace hK := hk_parB hK (by decide) 9 (by rfl)
                clear hd
                clear hz1
                simp only [lay, Act.put, List.setIfInBounds_toArray, List.set_cons_zero, List.set_cons_succ] at hK ⊢
                go_simp
                exact hK.out _ _ h9 (grown_refl _ _) (AtRow.refl _ _)
              exact OpsOK.nil
            intro u W hB hf
            have h1 := fact_valB (hf 1 (by decide) (by decide)) (by decide)
            dsimp only [nth] at h1
            have h2 := fact_valB (hf 2 (by decide) (by decide)) (by decide)
            dsimp only [nth] at h2
            have h3 := fact_valB (hf 3 (by decide) (by decide)) (by decide)
            dsimp only [nth] at h3
            have h4 := fact_valB (hf 4 (by decide) (by decide)) (by decide)
            dsimp only [nth] at h4
            have h5 := fact_rowB (hf 5 (by decide) (by decide)) (by decide)
            dsimp only [nth] at h5
            have h6 := fact_valB (hf 6 (by decide) (by decide)) (by decide)
            dsimp only [nth] at h6
            have h7 := fact_valB (hf 7 (by decide) (by decide)) (by decide)
            dsimp only [nth] at h7
            have h8 := fact_valB (hf 8 (by decide) (by decide)) (by decide)
            dsimp only [nth] at h8
            have h10 := fact_rowB (hf 10 (by decide) (by decide)) (by decide)
            dsimp only [nth] at h10
            clear hf
            simp only [lay, h1, h2, h3, h4, h6, h7, h8]
            clear h1 h2 h3 h4 h6 h7 h8
            have hJ2 := hJ1.step hB h10
            have hbx2 := hbx1.grown hB hown1
            have hL3 : (L2 ++ (eKey x).drop NN ++ uvar sq).length ≤ L.length + 20 + 522 := by simp only [List.length_append, List.length_drop]; omega
            generalize u 10 = v10 at *
            obtain ⟨L3, hL3e⟩ : ∃ L3, L2 ++ (eKey x).drop NN ++ uvar sq = L3 := ⟨_, rfl⟩
            rw [hL3e] at hL3 hJ2
            have HHead : Hid (bkHead NN x L = L3) := hid (by unfold bkHead; rw [hnk, hRe, HL2.out, HSq.out, Int.toNat_natCast]; exact hL3e)
            clear hL3e
            have hown2 := hJ2.1
            have HBj2 := hid hJ2.2.2
            have hbW2 := hJ2.2.2.size
            have hgx := hbx2.at_.2.2.1
            obtain ⟨G, hG⟩ : ∃ G, eGone x = G := ⟨_, rfl⟩
            rw [hG] at hgx
            have HGone := hid hG
            clear hG
            cases G
            · have huT := uvar_len tl
              have huV := uvar_len nv
              go_wp2
              apply wp_region_txtB (w.heap.size) 0 (v10.ownBlock) [none, none, none, none, none, none, some 10, none, none, none, none, none, none, none, none, none, none, none, none, none, none, none, none, none, none, none, none, none, none, none, none, none, none, none, none, none, none, none, none, none, none, none, none, none, none, none, none, none, none, none, none, none, none, none, none, none, none, none, none, none, none, none, none, none, none, none, none, none, none, none, none, none, none, none, none, none, none, none, none, none, none, none, none, none, some 0, some 1, some 2, some 3, some 4, some 5, some 6, some 7, some 8, some 9, none, none, none, none, none, none, none, none, none, none, none, none, none, none, none, none, none] [0, 1, 2, 6, 9, 10] [(0, 2), (9, 10)] [undef, undef, undef, _, _, _, undef, _, _, undef, undef] [_, _, _, [], [], [], _, [], [], _, _]
              case hm => rfl
              case hs => rfl
              case hst => kernel_rfl
              case hrow0 => exact fun k hk => (World.ownsRow.lt hown2 k hk).2
              case hput => exact OpsOK.cons (fun _ _ => rfl) (OpsOK.cons (fun _ _ => rfl) (OpsOK.cons (fun _ _ => rfl) (OpsOK.cons (fun _ _ => rfl) (OpsOK.cons (fun _ _ => rfl) (OpsOK.cons (fun _ _ => rfl) (OpsOK.cons (fun _ _ => rfl) (OpsOK.cons (fun _ _ => rfl) (OpsOK.cons (fun _ _ => rfl) (OpsOK.cons (fun _ _ => rfl) (OpsOK.cons (fun _ _ => rfl) (OpsOK.nil)))))))))))
              case hops =>
                refine OpsOK.cons ?_ ?_
                · intro u W K hB hz0 hz1 hd hK
                  have hbW := Nat.le_trans hbW2 hB.size
                  replace hK := hk_oldB hK rfl (by decide) (by rfl)
                  clear hd
                  have hw : u 10 = (v10) := (was_of hz1 10 (by kernel_rfl)).trans rfl
                  clear hz1
                  simp only [lay, Act.put, List.setIfInBounds_toArray, List.set_cons_zero, List.set_cons_succ, hw] at hK ⊢
                  go_simp
                  exact hK.out _ (OB.below hown2 (hz0 rfl)) (fun k hk => hk.symm)
                refine OpsOK.cons ?_ ?_
                · intro u W K hB hz0 hz1 hd hK
                  have hbW := Nat.le_trans hbW2 hB.size
                  replace hK := hk_rowB hbW hK (by decide) (by decide) (by rfl)
                  clear hd
                  clear hz1
                  simp only [lay, Act.put, List.setIfInBounds_toArray, List.set_cons_zero, List.set_cons_succ] at hK ⊢
                  (go_simp; exact hK.out _ _ (OB.lit1' _ _ (Nat.le_refl _) 0 0 rfl) (below_alloc' (Below.refl _ _) _))
                refine OpsOK.cons ?_ ?_
                · intro u W K hB hz0 hz1 hd hK
                  have hbW := Nat.le_trans hbW2 hB.size
                  have h0 := fact_rowB (dep_of hd 0 (by kernel_rfl) (by kernel_rfl)) (by decide)
                  dsimp only [nth] at h0
                  have h1 := fact_rowB (dep_of hd 1 (by kernel_rfl) (by kernel_rfl)) (by decide)
                  dsimp only [nth] at h1
                  replace hK := hk_parB hK (by decide) 0 (by rfl)
                  clear hd
                  clear hz1
                  (obtain ⟨A7, c7, e7, hr7, _⟩ := h1.open_; refine stepB_append W W w.heap.size (.tmp 84) (.tmp 85) (by rfl) (by rfl) (u 0) L3 (by rfl) h0 A7 _ c7 [0] (by exact e7) hr7 (by simp only [List.length_singleton]; omega) (Below.refl _ _) hbW ?_; intro v' w' a b d f; exact hK.out _ _ (show OB _ _ _ (L3 ++ [0]) from a) d f)
                refine OpsOK.cons ?_ ?_
                · intro u W K hB hz0 hz1 hd hK
                  have hbW := Nat.le_trans hbW2 hB.size
                  replace hK := hk_valB hK (by decide) (by rfl)
                  clear hd
                  clear hz1
                  simp only [lay, Act.put, List.setIfInBounds_toArray, List.set_cons_zero, List.set_cons_succ] at hK ⊢
                  go_simp
                  exact hK.out _ _ rfl (Below.refl _ _)
                refine OpsOK.cons ?_ ?_
                · intro u W K hB hz0 hz1 hd hK
                  have hbW := Nat.le_trans hbW2 hB.size
                  have h3 := fact_valB (dep_of hd 3 (by kernel_rfl) (by kernel_rfl)) (by decide)
                  dsimp only [nth] at h3
                  replace hK := hk_valB hK (by decide) (by rfl)
                  clear hd
                  clear hz1
                  simp only [lay, Act.put, List.setIfInBounds_toArray, List.set_cons_zero, List.set_cons_succ, h3] at hK ⊢
                  have y3 := (hbx2.grown hB hown2).at_.2.2.2.1
                  go_simp
                  exact hK.out _ _ rfl (Below.refl _ _)
                refine OpsOK.cons ?_ ?_
                · intro u W K hB hz0 hz1 hd hK
                  have hbW := Nat.le_trans hbW2 hB.size
                  have h4 := fact_valB (dep_of hd 4 (by kernel_rfl) (by kernel_rfl)) (by decide)
                  dsimp only [nth] at h4
                  replace hK := hk_valB hK (by decide) (by rfl)
                  clear hd
                  clear hz1
                  simp only [lay, Act.put, List.setIfInBounds_toArray, List.set_cons_zero, List.set_cons_succ, h4] at hK ⊢
                  go_simp
                  exact hK.out _ _ rfl (Below.refl _ _)
                refine OpsOK.cons ?_ ?_
                · intro u W K hB hz0 hz1 hd hK
                  have hbW := Nat.le_trans hbW2 hB.size
                  have h2 := fact_rowB (dep_of hd 2 (by kernel_rfl) (by kernel_rfl)) (by decide)
                  dsimp only [nth] at h2
                  have h5 := fact_valB (dep_of hd 5 (by kernel_rfl) (by kernel_rfl)) (by decide)
                  dsimp only [nth] at h5
                  replace hK := hk_rowB hbW hK (by decide) (by decide) (by rfl)
                  clear hd
                  clear hz1
                  simp only [lay, Act.put, List.setIfInBounds_toArray, List.set_cons_zero, List.set_cons_succ, h5] at hK ⊢
                  obtain ⟨A8, c8, e8, hr8, _⟩ := h2.openN (L3.length + 1) (by rw [List.length_append]; rfl)
                  simp only [e8, HTl.out, hq4] at hK ⊢
                  go_simp
                  first
                    | (go_at_call 31; (with_reducible refine (put_any A8 _ c8 (L3 ++ [0]) tl _ hr8 htl2 (by omega)).mono ?_); rintro e w1 ⟨v1, rfl, hown1, hb1⟩; exact hK.out _ _ hown1 hb1)
                    | (go_at_call 30; (with_reducible refine (putbytes_any A9 _ c9 (L3 ++ [0] ++ uvar tl) Av nv cv (eVal x) _ hr9 (HVw.out _ (Below.grown HBj2.out hB hbW2 (OB.base_ hown2))) (by omega)).mono ?_); rintro e w1 ⟨v1, rfl, hown1, hb1⟩; exact hK.out _ _ hown1 hb1)
                refine OpsOK.cons ?_ ?_
                · intro u W K hB hz0 hz1 hd hK
                  have hbW := Nat.le_trans hbW2 hB.size
                  replace hK := hk_valB hK (by decide) (by rfl)
                  clear hd
                  clear hz1
                  simp only [lay, Act.put, List.setIfInBounds_toArray, List.set_cons_zero, List.set_cons_succ] at hK ⊢
                  go_simp
                  exact hK.out _ _ rfl (Below.refl _ _)
                refine OpsOK.cons ?_ ?_
                · intro u W K hB hz0 hz1 hd hK
                  have hbW := Nat.le_trans hbW2 hB.size
                  have h7 := fact_valB (dep_of hd 7 (by kernel_rfl) (by kernel_rfl)) (by decide)
                  dsimp only [nth] at h7
                  replace hK := hk_valB hK (by decide) (by rfl)
                  clear hd
                  clear hz1
                  simp only [lay, Act.put, List.setIfInBounds_toArray, List.set_cons_zero, List.set_cons_succ, h7] at hK ⊢
                  have y4 := (hbx2.grown hB hown2).at_.2.2.2.2
                  go_simp
                  exact hK.out _ _ rfl (Below.refl _ _)
                refine OpsOK.cons ?_ ?_
                · intro u W K hB hz0 hz1 hd hK
                  have hbW := Nat.le_trans hbW2 hB.size
                  have h6 := fact_rowB (dep_of hd 6 (by kernel_rfl) (by kernel_rfl)) (by decide)
                  dsimp only [nth] at h6
                  have h8 := fact_valB (dep_of hd 8 (by kernel_rfl) (by kernel_rfl)) (by decide)
                  dsimp only [nth] at h8
                  replace hK := hk_rowB hbW hK (by decide) (by decide) (by rfl)
                  clear hd
                  clear hz1
                  simp only [lay, Act.put, List.setIfInBounds_toArray, List.set_cons_zero, List.set_cons_succ, h8] at hK ⊢
                  obtain ⟨A9, c9, e9, hr9, _⟩ := h6.openN (L3.length + 1 + (uvar tl).length) (by rw [List.length_append, List.length_append]; rfl)
                  simp only [e9] at hK ⊢
                  go_simp
                  first
                    | (go_at_call 31; (with_reducible refine (put_any A8 _ c8 (L3 ++ [0]) tl _ hr8 htl2 (by omega)).mono ?_); rintro e w1 ⟨v1, rfl, hown1, hb1⟩; exact hK.out _ _ hown1 hb1)
                    | (go_at_call 30; (with_reducible refine (putbytes_any A9 _ c9 (L3 ++ [0] ++ uvar tl) Av nv cv (eVal x) _ hr9 (HVw.out _ (Below.grown HBj2.out hB hbW2 (OB.base_ hown2))) (by omega)).mono ?_); rintro e w1 ⟨v1, rfl, hown1, hb1⟩; exact hK.out _ _ hown1 hb1)
                refine OpsOK.cons ?_ ?_
                · intro u W K hB hz0 hz1 hd hK
                  have hbW := Nat.le_trans hbW2 hB.size
                  have h9 := fact_rowB (dep_of hd 9 (by kernel_rfl) (by kernel_rfl)) (by decide)
                  dsimp only [nth] at h9
                  replace hK := hk_parB hK (by decide) 9 (by rfl)
                  clear hd
                  clear hz1
                  simp only [lay, Act.put, List.setIfInBounds_toArray, List.set_cons_zero, List.set_cons_succ] at hK ⊢
                  go_simp
                  exact hK.out _ _ h9 (grown_refl _ _) (AtRow.refl _ _)
                exact OpsOK.nil
              intro u W hB hf
              have h1 := fact_rowB (hf 1 (by decide) (by decide)) (by decide)
              dsimp only [nth] at h1
              have h2 := fact_rowB (hf 2 (by decide) (by decide)) (by decide)
              dsimp only [nth] at h2
              have h3 := fact_valB (hf 3 (by decide) (by decide)) (by decide)
              dsimp only [nth] at h3
              have h4 := fact_valB (hf 4 (by decide) (by decide)) (by decide)
              dsimp only [nth] at h4
              have h5 := fact_valB (hf 5 (by decide) (by decide)) (by decide)
              dsimp only [nth] at h5
              have h6 := fact_rowB (hf 6 (by decide) (by decide)) (by decide)
              dsimp only [nth] at h6
              have h7 := fact_valB (hf 7 (by decide) (by decide)) (by decide)
              dsimp only [nth] at h7
              have h8 := fact_valB (hf 8 (by decide) (by decide)) (by decide)
              dsimp only [nth] at h8
              have h10 := fact_rowB (hf 10 (by decide) (by decide)) (by decide)
              dsimp only [nth] at h10
              clear hf
              simp only [lay, h3, h4, h5, h7, h8]
              clear h3 h4 h5 h7 h8
              have hJ3 := hJ2.step hB h10
              go_wp2
              go_roundw
              case rel => exact ⟨j + 1, by omega, by go_num, by rw [HAcc.out, HSt2.out, HHead.out, bkTail_false HGone.out, HTl.out, Int.toNat_natCast]; exact hJ3⟩
              case measure => simp [intOf]; omega
            · go_wp2_with (at_builtin; refine wpB_append1 w _ w.heap.size rfl (.tmp 81) (.tmp 82) rfl v10 L3 rfl hown2 1 1 rfl 1 rfl (by omega) hJ2.2.2 hbW2 ?_; intro v2 w2 hown3 hB3 hg3 _)
              have hJ3 := hJ2.step hg3 hown3
              go_roundw
              case rel => exact ⟨j + 1, by omega, by go_num, by rw [HAcc.out, HSt2.out, HHead.out, bkTail_true HGone.out]; exact hJ3⟩
              case measure => simp [intOf]; omega
        · obtain rfl : j = k := by omega
          obtain ⟨wo, rfl⟩ : ∃ wo, wo = wr := ⟨_, rfl⟩
          have hat := stK_at es 1080000 j (fun i hi => Nat.le_trans (HLen.out i hi) (by omega))
          have hsl := stK_len es j
          obtain ⟨m, hm⟩ : ∃ m, (stK es j).length = m := ⟨_, rfl⟩
          have hm60 : m ≤ 60 := by omega
          have hfl := hid (fixK_len (accK es j) (stK es j))
          have hLl := HLen.out j (Nat.le_refl _)
          have HX : Hid (encK es = fixK (accK es j) (stK es j) m ++ fixB m 4) := hid (by unfold encK; rw [HL.out, hm])
          obtain ⟨hO, hI, hBw⟩ := hJ
          obtain ⟨A7, c7, hv7, hc7⟩ := hI.slice m hm
          subst hv7
          rw [hm] at hat
          generalize accK es j = L at *
          generalize stK es j = st at *
          have HAt := hid hat
          have HI := hid hI
          have HO : Hid (OB wo w.heap.size u6 (fixK L st 0)) := hid hO
          clear hat hI hO hsl
          go_wp2
          go_loopw [6, 97] (fun v i wx => ∃ t : Nat, t ≤ m ∧ i = .int .i64 t ∧ OB wx w.heap.size v (fixK L st t) ∧ Below wo.heap.size wo wx) (fun v i wx => m - (intOf i).toNat)
          case atStart => exact ⟨0, Nat.zero_le _, rfl, HO.out, Below.refl _ _⟩
          case round =>
            obtain ⟨t, ht, rfl, hown, hBx⟩ := hrel
            obtain ⟨A6, c6, rfl, hr6, hc6⟩ := hown.open_
            have HF := hid (hfl.out t)
            have hBx0 := below_then hBw hBx
            by_cases hlt : t < m
            · obtain ⟨g7, cp7, he7, _⟩ := HI.out.form m hm (by omega)
              injection he7 with e1 e2 e3
              subst e1
              subst e3
              clear e2
              obtain ⟨g, hg, hg2⟩ := HAt.out t hlt
              have hcell := below_cell hBx (HI.out.cell hm hlt)
              rw [hg] at hcell
              have hq := wrap_u64_nat' g (by omega)
              have HNx : Hid (fixK L st (t + 1) = fixK L st t ++ fixB g 4) := hid (by rw [fixK, hg, Int.toNat_natCast])
              clear hg hown
              go_wp2_with (go_at_call 34; (with_reducible refine (fixed_any A6 _ c6 (fixK L st t) g 4 _ hr6 (by omega) (by omega) (by have := HF.out; omega)).mono ?_); rintro e w2 ⟨v2, rfl, hown2, hb2⟩)
              go_roundw
              case rel => exact ⟨t + 1, by omega, by go_num, by rw [HNx.out]; exact hown2.mono hBx0.size, below_then hBx hb2⟩
              case measure => simp [intOf]; omega
            · obtain rfl : t = m := by omega
              have hq := wrap_u64_nat' t (by omega)
              clear hown
              go_wp2_with (go_at_call 34; (with_reducible refine (fixed_any A6 _ c6 (fixK L st t) t 4 _ hr6 (by omega) (by omega) (by have := HF.out; omega)).mono ?_); rintro e w2 ⟨v2, rfl, hown2, hb2⟩)
              go_ret2
              exact ⟨_, rfl, by rw [HX.out]; exact hown2.mono hBx0.size, below_then hBx0 hb2⟩
end Go.Proofs.YtkkclkknpjapcaaDoor
