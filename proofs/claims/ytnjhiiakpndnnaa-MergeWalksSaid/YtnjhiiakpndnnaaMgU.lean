/- Layer 16: the document's Merge: the walk. -/
import Derived.Test.YtnjhiiakpndnnaaMgS
import Derived.StillTailTactics
import Derived.Deep.RegionLaw
namespace Go.Proofs.Ytnjhiiakpndnnaa
open Go.RowKit
set_option linter.unusedVariables false
set_option linter.unusedSimpArgs false

theorem intinfo : (Try.prog.info? 3).map (fun i => (i.zero, i.size, i.bytes)) = some (some (.int .i64 0), 1, 8) := by kernel_rfl
theorem made_ints (n : Nat) : madeCells #[Value.int .i64 0] n = intsA (List.replicate n 0) := by
  apply Array.toList_inj.1
  apply List.ext_getElem
  · simp [madeCells, intsA]
  · intro i h1 h2
    simp [madeCells, intsA, Nat.mod_one]
theorem stepV_append1 {ops : Array Oper} {o : Oper} {a : Act} {K : Act → World → Prop} {Q : Exit → Act → World → Prop} {E : Prop} (t e : TypeId) (z : Value) (size bytes : Nat) (ht : Try.prog.underlying t = some (.slice e))
    (hinfo : (Try.prog.info? e).map (fun i => (i.zero, i.size, i.bytes)) = some (some z, size, bytes)) (hzs : z.cells.size = size) (hsz : 0 < size) (w : World) (base : Nat) (hwant : Region.wanted o (yielded ops a.tmps) = true) (s x : Operand)
    (ho : o.op = .call { callee := .builtin .append, args := #[s, x], argTypes := #[t, t] })
    (v : Value) (V : List (List Value)) (hs : a.eval s = v) (hown : OV w base e size v V) (cs : Array Value) (hcs : cs.size = size) (hu : ∀ u ∈ cs.toList, u.oneCell' = true) (c2 g : Nat) (hg : g = w.heap.size) (hx : a.eval x = .slice (some ⟨g, 0, none⟩) 1 c2)
    (hmax : V.length + 1 ≤ maxLen) (hbytes : (V.length + 1) * bytes ≤ 140737488355328) (hbase : base ≤ w.heap.size)
    (h : ∀ v' w', OV w' base e size v' (V ++ [cs.toList]) → w.grownBy w' v.ownBlock → K (a.put o.dst v') w') : if Region.wanted o (yielded ops a.tmps) = true then Oper.wp Try.prog o a (w.alloc (.cells cs e)) K Q else E := by
  subst hg
  refine step_append_any _ rfl hwant s x _ ho base e z size bytes ht hinfo hzs hsz v V.length V.flatten hs (World.ownsRow.alloc hown.1 _) _ 1 c2 cs.toList hx (Reads.block (heap_alloc_new w _) (by rw [hcs, Nat.one_mul])) hu hmax hbytes (by simp; omega) ?_
  intro v' w' h2 h3 h4
  refine h v' w' ⟨?_, ?_⟩ (grown_step (v0 := v) (World.grownBy_alloc w _ _) (AtRow.refl _ v) h3)
  · rw [List.length_append, List.flatten_append]
    simpa using h2
  · intro y hy
    rcases List.mem_append.1 hy with hy | hy
    · exact hown.2 y hy
    · rw [List.mem_singleton] at hy
      subst hy
      simpa using hcs
theorem ints_set' {w : World} {ba : Nat} {a : List Nat} {r x : Nat} {z : Int} (h : w.heap[ba]? = some (.cells (intsA a) 3 (0, 0))) (hr : r < a.length) (hz : z = (x : Int)) : (w.setCell ⟨ba, r, none⟩ (.int .i64 z)).heap[ba]? = some (.cells (intsA (a.set r x)) 3 (0, 0)) := by
  subst hz
  exact ints_set h hr
theorem totR_zero : ∀ (R : List (List EntR)), (∀ r, r < R.length → er R r = []) → totR R = 0 := by
  intro R
  induction R with
  | nil => intro _; rfl
  | cons x R ih =>
    intro h
    have h1 : x = [] := h 0 (by simp)
    have h2 := ih fun r hr => h (r + 1) (by simpa using hr)
    simp [totR, h1, h2]
/-- What the document's Merge leaves. -/
def RefC (w w' : World) (ess : List (List EntR)) (r : Ending) : Prop := ∃ v out, r = .returned v ∧ MRel ess out ∧ out.length = totR ess ∧ ROwR w w' w.heap.size v out ∧ Below w.heap.size w w'
set_option maxHeartbeats 64000000 in
set_option maxRecDepth 200000 in
theorem refmerge_any (A : Option Addr) (n c : Nat) (ess : List (List EntR)) (w : World) (h : REnss w A n ess) (hn : n ≤ 100) (hf : totR ess ≤ 40000) :
    Calls Try.prog 22 #[.slice A n c] w fun r w' => RefC w w' ess r := by
  have hl := h.1
  have H := hid h
  have HL := hid hl
  have hmk : ∀ (u : World), (Instr.makeSlice 70 (.int .i64 (n : Int)) (.int .i64 (n : Int))).run Try.prog u = .ok (.slice (some ⟨u.heap.size, 0, none⟩) n n) (u.alloc (.cells (intsA (List.replicate n 0)) 3)) := by
    intro u
    obtain ⟨i, hi, hz0, hz1, hz2⟩ := info_parts intinfo
    have h := run_make (P := Try.prog) u 70 3 i (.int .i64 0) Try.underlying70 hi hz0 .i64 .i64 (n : Int) (n : Int) (by omega) (Int.le_refl _) (by rw [hz2]; omega) (by omega)
    rw [← made_ints]
    simpa [hz1, Value.cells] using h
  have HJ0 : Hid (RefJ w (w.alloc (.cells (intsA (List.replicate n 0)) 3)) ess w.heap.size (List.replicate n 0) ess [] (.slice none 0 0)) := by
    refine hid ⟨⟨[], OV.nil _ _ _ _, RelV.nil⟩, ?_, fun rest hr => hr, by simp, heap_alloc_new w _, below_alloc' (Below.refl _ _) _, Nat.le_refl _⟩
    have := DropA.start ess
    rw [hl] at this
    exact this
  clear h hl
  go_enter Try.func22, Try.ntmps22
  go_wp2
  obtain ⟨ba, hba⟩ : ∃ ba, w.heap.size = ba := ⟨_, rfl⟩
  have hj0 := HJ0.out
  rw [hba]
  generalize hW : w.alloc (.cells (intsA (List.replicate n 0)) 3) = W0 at *
  have HJ1 : Hid (RefJ w W0 ess ba (List.replicate n 0) ess [] (.slice none 0 0)) := by unfold Hid; rw [← hba]; exact hj0
  clear hj0 HJ0 hba hW
  go_loopw [3] (fun v wr => ∃ a R out, RefJ w wr ess ba a R out v) (fun v wr => totR ess - lenV v)
  case atStart => exact ⟨_, _, _, HJ1.out⟩
  case round =>
    clear HJ1
    obtain ⟨a, R, out, hJ⟩ := hrel
    obtain ⟨wo, rfl⟩ : ∃ wo, wo = wr := ⟨_, rfl⟩
    have HJ := hid hJ
    clear hJ
    go_wp2
    go_loopw [5, 13] (fun v i wx => ∃ (k : Nat) (z : Int), k ≤ n ∧ i = .int .i64 k ∧ v = .int .i64 z ∧ BestK R k z ∧ Below wo.heap.size wo wx) (fun v i wx => n - (intOf i).toNat)
    case atStart => exact ⟨0, -1, Nat.zero_le _, rfl, rfl, BestK.start R, Below.refl _ _⟩
    case round =>
      obtain ⟨k, z, hk, rfl, rfl, hbest, hBo⟩ := hrel
      have hJx := HJ.out.below hBo
      have hBw := hJx.bel
      by_cases hlt : k < n
      · obtain ⟨ad, rfl, Aj, nj, cj, hcj, hrj, hnc⟩ := H.out.at_ hlt
        have hcj := below_cell hBw hcj
        have hkl : k < ess.length := by rw [HL.out]; exact hlt
        have hlj := hrj.1
        have hjm := hrj.2.1
        have hck := ints_at hJx.at_ (by rw [hJx.drop.al]; exact hkl)
        have hemp := hJx.drop.empty hkl
        rw [hlj] at hemp
        obtain ⟨q, hq⟩ : ∃ q, elt 0 a k = q := ⟨_, rfl⟩
        rw [hq] at hck hemp
        have HBest := hid hbest
        have HRj := hid hrj
        have HEmp := hid hemp
        have HDrop := hid hJx.drop
        have HJx := hid hJx
        have HBo := hid hBo
        clear hbest hrj hemp hlj hJx
        by_cases hqn : q < nj
        · have hd1 : decide ((q : Int) < (nj : Int)) = true := decide_eq_true (by omega)
          have hne : er R k ≠ [] := fun h => HEmp.out.1 h hqn
          rcases HBest.out with ⟨rfl, hz⟩ | ⟨b, rfl, hb⟩
          · have HN := hid (BestK.first hz hne)
            clear hz hne
            go_wp2
            go_cut [49] (fun v wx => v = .bool true ∧ Below wo.heap.size wo wx)
            case first =>
              go_region
              all_goals
                go_wp2
                go_meet
                exact ⟨rfl, below_then HBo.out (below_drew (Below.refl _ _))⟩
            case rest =>
              obtain ⟨rfl, hBc⟩ := hcut
              go_wp2
              go_roundw
              case rel => exact ⟨k + 1, _, by omega, by go_num, rfl, HN.out, hBc⟩
              case measure => simp [intOf]; omega
          · have hbk := hb.1
            have hbn : b < n := by omega
            have HHb := hid hb
            obtain ⟨ad', he, Ab, nb, cb, hcb, hrb, hnb⟩ := H.out.at_ (j := b) (by omega)
            injection he with he
            subst he
            have hcb := below_cell hBw hcb
            have hbl : b < ess.length := by rw [HL.out]; omega
            have hlb := hrb.1
            have hbm := hrb.2.1
            have hcp := ints_at HJx.out.at_ (by rw [HDrop.out.al]; exact hbl)
            have hempb := HDrop.out.empty hbl
            rw [hlb] at hempb
            obtain ⟨p, hp⟩ : ∃ p, elt 0 a b = p := ⟨_, rfl⟩
            rw [hp] at hcp hempb
            have hpn : p < nb := by
              rcases Nat.lt_or_ge p nb with h | h
              · exact h
              · exact absurd (hempb.2 (by omega)) hb.2.1
            obtain ⟨ae, rfl, hce⟩ := HRj.out.at_ hqn
            obtain ⟨be, rfl, hcf⟩ := hrb.at_ hpn
            have hx1 := HDrop.out.head hkl
            have hy1 := HDrop.out.head hbl
            rw [hq] at hx1
            rw [hp] at hy1
            obtain ⟨C, hC⟩ : ∃ C, aheadR (elt noEnt (er ess k) q) (elt noEnt (er ess b) p) = C := ⟨_, rfl⟩
            obtain ⟨Bb, hBb⟩ : ∃ Bb, decide (C < 0) = Bb := ⟨_, rfl⟩
            have HNew : Hid (Bb = true → BestK R (k + 1) (k : Int)) := fun h => by
              refine BestK.new HHb.out hne ?_
              rw [hx1, hy1, ← aheadR_neg, hC]
              rw [← hBb] at h
              exact of_decide_eq_true h
            have HKeep : Hid (Bb = false → BestK R (k + 1) (b : Int)) := fun h => by
              refine BestK.keep HHb.out ?_
              rw [hx1, hy1]
              cases hq2 : aheadE (elt noEnt (er ess k) q) (elt noEnt (er ess b) p)
              · rfl
              · rw [← aheadR_neg, hC] at hq2
                rw [← hBb] at h
                exact absurd hq2 (of_decide_eq_false h)
            obtain ⟨Ak, nk, ck, Av, nv, cv, a0, a1, a2, a3, a4, a5, a6, a7, a8⟩ := hce.below hBw
            obtain ⟨Bk, mk, dk, Bv, mv, dv, b0, b1, b2, b3, b4, b5, b6, b7, b8⟩ := hcf.below hBw
            generalize elt noEnt (er ess k) q = x at *
            generalize elt noEnt (er ess b) p = y at *
            have HC := hid hC
            have HK := hid (⟨a5, b5⟩ : _ ∧ _)
            have hbneg : decide ((b : Int) < 0) = false := decide_eq_false (by omega)
            clear hb hrb hempb hce hcf hx1 hy1 hC a5 a6 b5 b6 hne hlb hp hq
            go_wp2
            go_cut [49] (fun v wx => v = .bool Bb ∧ Below wo.heap.size wo wx)
            case first =>
              go_still_tail 28, (by kernel_rfl)
              change wpList _ _ _ _ _ wr.drew
              have HKd := hid (⟨HK.out.1.drew, HK.out.2.drew⟩ : _ ∧ _)
              have hBd : Below wr.heap.size wr wr.drew := below_drew (Below.refl _ _)
              generalize wr.drew = w2 at *
              go_wp2_with (go_at_call 18; (with_reducible refine (refahead_any Ak nk ck Av nv cv x Bk mk dk Bv mv dv y _ HKd.out.1 HKd.out.2).mono ?_); rintro r w1 ⟨rfl, hb1⟩; rw [HC.out])
              go_meet
              exact ⟨by first | rfl | rw [hBb], below_then HBo.out (below_then hBd hb1)⟩
            case rest =>
              obtain ⟨rfl, hBc⟩ := hcut
              clear hBb
              cases Bb
              · have HN := hid (HKeep.out rfl)
                go_wp2
                go_roundw
                case rel => exact ⟨k + 1, _, by omega, by go_num, rfl, HN.out, hBc⟩
                case measure => simp [intOf]; omega
              · have HN := hid (HNew.out rfl)
                go_wp2
                go_roundw
                case rel => exact ⟨k + 1, _, by omega, by go_num, rfl, HN.out, hBc⟩
                case measure => simp [intOf]; omega
        · have hd1 : decide ((q : Int) < (nj : Int)) = false := decide_eq_false (by omega)
          have HN := hid (HBest.out.skip (HEmp.out.2 hqn))
          go_wp2
          go_cut [49] (fun v wx => v = .bool false ∧ Below wo.heap.size wo wx)
          case first =>
            go_region
            all_goals
              go_wp2
              go_meet
              exact ⟨rfl, below_then HBo.out (below_drew (Below.refl _ _))⟩
          case rest =>
            obtain ⟨rfl, hBc⟩ := hcut
            go_wp2
            go_roundw
            case rel => exact ⟨k + 1, z, by omega, by go_num, rfl, HN.out, hBc⟩
            case measure => simp [intOf]; omega
      · obtain rfl : k = n := by omega
        have hRl : R.length = k := by rw [hJx.drop.rl, HL.out]
        rcases hbest with ⟨rfl, hz⟩ | ⟨b, rfl, hb⟩
        · have hz' : ∀ r, r < R.length → er R r = [] := fun r hr => hz r (by rw [hRl] at hr; exact hr)
          have HF : Hid (RefC w wr ess (.returned u3)) := hid ⟨u3, out, rfl, by have := hJx.rel [] (BestK.end_ hz'); simpa using this, by have := hJx.tot; rw [totR_zero R hz'] at this; simpa using this, hJx.row, hJx.bel⟩
          clear hz hz' hJx hRl
          go_wp2
          go_ret
          exact HF.out
        · have hbn : b < k := hb.1
          have HB : Hid (b < R.length ∧ er R b ≠ [] ∧ ∀ r, r < R.length → er R r ≠ [] → r ≠ b → LessH (mkHd (er R b) b) (mkHd (er R r) r)) := by unfold Hid; rw [hRl]; exact hb
          obtain ⟨ad, rfl, Ab, nb, cb, hcb, hrb, hnb⟩ := H.out.at_ (j := b) hbn
          have hcb := below_cell hBw hcb
          have hbl : b < ess.length := by rw [HL.out]; exact hbn
          have hlb := hrb.1
          have hbm := hrb.2.1
          have hal : b < a.length := by rw [hJx.drop.al]; exact hbl
          have hcp := ints_at hJx.at_ hal
          have hempb := hJx.drop.empty hbl
          rw [hlb] at hempb
          obtain ⟨p, hp⟩ : ∃ p, elt 0 a b = p := ⟨_, rfl⟩
          have HP := hid hp
          rw [hp] at hcp hempb
          have hpn : p < nb := by
            rcases Nat.lt_or_ge p nb with h | h
            · exact h
            · exact absurd (hempb.2 (by omega)) hb.2.1
          obtain ⟨be, rfl, hcf⟩ := hrb.at_ hpn
          have hy1 := hJx.drop.head hbl
          rw [hp] at hy1
          have hto := hJx.tot
          have hpos : 0 < totR R := by
            have h1 := totR_set HB.out.1 ([] : List EntR)
            have h2 : 0 < (er R b).length := List.length_pos_iff.2 hb.2.1
            simp at h1
            omega
          obtain ⟨Bk, mk, dk, Bv, mv, dv, b0, b1, b2, b3, b4, b5, b6, b7, b8⟩ := hcf
          have b0 := below_cell hBw b0
          have b1 := below_cell hBw b1
          have b2 := below_cell hBw b2
          have b3 := below_cell hBw b3
          have b4 := below_cell hBw b4
          generalize elt noEnt (er ess b) p = y at *
          have HY := hid hy1
          have HPE : Hid (PER w [.slice Bk mk dk, .int .i64 (eSeq y), .bool (eGone y), .int .i64 (eTil y), .slice Bv mv dv] y) := hid ⟨Bk, mk, dk, Bv, mv, dv, rfl, b5, b6, b7, b8⟩
          obtain ⟨U, hU, hUr⟩ := hJx.row
          have hUl : U.length = out.length := hUr.1
          obtain ⟨Ao, co, hve, _⟩ := hU.openN out.length hUl
          subst hve
          have HUr := hid hUr
          have hbneg : decide ((b : Int) < 0) = false := decide_eq_false (by omega)
          have hwp : wrap64 ((p : Int) + 1) = (p : Int) + 1 := by unfold wrap64; omega
          have hbd : Below wr.heap.size wr wr.drew := below_drew (Below.refl _ _)
          have HU2 := hid (hU.below hbd)
          have HAt := hid (blk_below hbd hJx.at_)
          have HBd := hid (below_then hBw hbd)
          have HJx := hid hJx
          have hbase := HJx.out.base_
          clear hb hrb hempb hy1 b5 b6 hp hU hUr hJx hRl hbd
          go_wp2
          go_cut [3] (fun v wx => ∃ A3 c3, v = .slice A3 (out.length + 1) c3 ∧ ROwR w wx w.heap.size v (out ++ [y]) ∧ wx.heap[ba]? = some (.cells (intsA a) 3 (0, 0)) ∧ Below w.heap.size w wx)
          case first =>
            go_region_law (first | (refine stepV_append1 27 35 _ 5 72 Try.underlying27 eninfo rfl (by omega) _ w.heap.size (by rfl) (.tmp 55) (.tmp 66) (by rfl) (.slice Ao out.length co) U (by rfl) HU2.out #[.slice Bk mk dk, .int .i64 (eSeq y), .bool (eGone y), .int .i64 (eTil y), .slice Bv mv dv] rfl (ones5 rfl rfl rfl rfl rfl) 1 _ (by first | rfl | simp) (by rfl) (by simp only [maxLen]; omega) (by omega) HBd.out.size ?_; intro v3 w3 hown3 hg3; obtain ⟨A3, c3, hv3, _⟩ := hown3.openN (out.length + 1) (by simp [hUl]); subst hv3))
            all_goals
              go_wp2
              go_meet
              exact ⟨A3, c3, rfl, ⟨_, hown3, HUr.out.snoc HPE.out⟩, blk_grown' hg3 HAt.out (OV.ne_blk HU2.out HAt.out (by decide)), HBd.out.grown hg3 HBd.out.size HU2.out.base_⟩
          case rest =>
            obtain ⟨A3, c3, rfl, hrow3, hat3, hB3⟩ := hcut
            have hc3 : wc.cell? ⟨ba, b, none⟩ = some (.int .i64 (p : Nat)) := by rw [← HP.out]; exact ints_at hat3 hal
            have fz3 := fun i => frozen_of_row wc ba i _ _ hat3
            have hrow3' := hrow3
            obtain ⟨U3, hU3, hUr3⟩ := hrow3'
            have HN : Hid (RefJ w (wc.setCell ⟨ba, b, none⟩ (.int .i64 ((p : Int) + 1))) ess ba (a.set b (elt 0 a b + 1)) (R.set b (er R b).tail) (out ++ [elt noEnt (er R b) 0]) (.slice A3 (out.length + 1) c3)) := by
              refine hid (RefJ.step HJx.out HB.out ?_ (ints_set' hat3 hal (by rw [HP.out]; push_cast; rfl)) (hB3.setCell (show w.heap.size ≤ (⟨ba, b, none⟩ : Addr).block from hbase) _))
              rw [HY.out]
              exact ⟨U3, hU3.other (grown_set wc ba b _) (.inr (hU3.ne_blk hat3 (by decide))), hUr3⟩
            clear hrow3 hat3 hU3 hUr3
            go_wp2
            go_roundw
            case rel => exact ⟨_, _, _, HN.out⟩
            case measure => simp [lenV]; omega
end Go.Proofs.Ytnjhiiakpndnnaa
