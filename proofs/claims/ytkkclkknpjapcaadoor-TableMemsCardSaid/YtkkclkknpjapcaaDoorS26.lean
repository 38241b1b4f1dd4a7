/- Shared texts, part S26: TbJ. -/
import Derived.Test.YtkkclkknpjapcaaDoorS25
/-! ### TbJ -/
namespace Go.Proofs.YtkkclkknpjapcaaDoor
open Go.RowKit
set_option linter.unusedVariables false
set_option linter.unusedSimpArgs false

def noPl : Nat × Nat := (0, 0)
/-- The slice of n places at A holds ps. -/
def PlCell (w : World) (ad : Addr) (p : Nat × Nat) : Prop := w.cell? ad = some (.int .u64 (p.1 : Int)) ∧ w.cell? ⟨ad.block, ad.off + 1, none⟩ = some (.int .u64 (p.2 : Int))
def RPl (w : World) (A : Option Addr) (n : Nat) (ps : List (Nat × Nat)) : Prop := ps.length = n ∧ n ≤ 9223372036854775807 ∧ (0 < n → ∃ ad, A = some ad ∧ ∀ j, j < n → PlCell w (ad.add (j * 2)) (elt noPl ps j))
theorem RPl.at_ {w : World} {A : Option Addr} {n : Nat} {ps : List (Nat × Nat)} (h : RPl w A n ps) {j : Nat} (hj : j < n) : ∃ ad, A = some ad ∧ PlCell w (ad.add (j * 2)) (elt noPl ps j) := by
  obtain ⟨ad, e, hc⟩ := h.2.2 (by omega)
  exact ⟨ad, e, hc j hj⟩
theorem OPl.reads {w : World} {base : Nat} {v : Value} {ps : List (Nat × Nat)} (h : OPl w base v ps) (hm : ps.length ≤ 9223372036854775807) : ∃ A c, v = .slice A ps.length c ∧ ps.length ≤ c ∧ RPl w A ps.length ps ∧ ∀ ad, A = some ad → base ≤ ad.block := by
  unfold OPl at h
  have hl : (ps.map PlV).length = ps.length := List.length_map ..
  rcases Nat.eq_zero_or_pos ps.length with h0 | h0
  · obtain ⟨A, c, rfl, hc⟩ := h.open_
    refine ⟨A, c, by rw [hl], by omega, ⟨rfl, hm, fun hn => absurd hn (by omega)⟩, fun ad e => ?_⟩
    subst e
    exact h.base_ ad.block rfl
  · obtain ⟨g, c, rfl, hb, _, hc⟩ := h.form (by omega)
    refine ⟨_, c, by rw [hl], by omega, ⟨rfl, hm, fun _ => ⟨_, rfl, fun j hj => ?_⟩⟩, fun ad e => ?_⟩
    · have h2 := fun i (hi : i < 2) => h.cell (j := j) (i := i) (by omega) hi
      have he : elt [] (ps.map PlV) j = PlV (elt noPl ps j) := by
        unfold elt
        simp [List.getD_eq_getElem?_getD, hj]
      rw [he] at h2
      rw [add_plain, Nat.zero_add]
      exact ⟨h2 0 (by omega), h2 1 (by omega)⟩
    · cases e
      exact hb
/-- append of records. -/
theorem wpV_append {ops : Array Oper} {rest : List Oper} {o : Oper} {a : Act} {Q : Exit → Act → World → Prop} (t e : TypeId) (z : Value) (size bytes : Nat) (ht : Tryd.prog.underlying t = some (.slice e))
    (hinfo : (Tryd.prog.info? e).map (fun i => (i.zero, i.size, i.bytes)) = some (some z, size, bytes)) (hzs : z.cells.size = size) (hsz : 0 < size) (w0 w : World) (base : Nat) (hgd : o.guard = none) (s x : Operand)
    (ho : o.op = .call { callee := .builtin .append, args := #[s, x], argTypes := #[t, t] })
    (v : Value) (V : List (List Value)) (hs : a.eval s = v) (hown : OV w base e size v V) (A : Option Addr) (m c : Nat) (U : List (List Value)) (hx : a.eval x = .slice A m c) (hr : Reads w size A m U.flatten) (hU : ∀ x ∈ U, x.length = size) (hm : U.length = m) (hu : ∀ u ∈ U.flatten, u.oneCell' = true)
    (hmax : V.length + m ≤ maxLen) (hbytes : (V.length + m) * bytes ≤ 140737488355328) (hB : Below base w0 w) (hbase : base ≤ w.heap.size)
    (h : ∀ v' w', OV w' base e size v' (V ++ U) → Below base w0 w' → w.grownBy w' v.ownBlock → AtRow w.heap.size v v' → wpList Tryd.prog ops Q rest (a.put o.dst v') w') : wpList Tryd.prog ops Q (o :: rest) a w := by
  refine wpList_append_any w hgd s x _ ho base e z size bytes ht hinfo hzs hsz v V.length V.flatten hs hown.1 _ m c U.flatten hx hr hu hmax hbytes hbase ?_
  intro v' w' h2 h3 h4
  refine h v' w' ⟨?_, ?_⟩ (hB.grown h3 hbase (own_base hown.1)) h3 (h4.imp id fun e => ⟨_, e, Nat.le_refl _⟩)
  · rw [List.length_append, List.flatten_append, hm]
    exact h2
  · intro y hy
    rcases List.mem_append.1 hy with hy | hy
    · exact hown.2 y hy
    · exact hU y hy
/-- The table's box as read has it. -/
def RdT (w wr : World) (bt : Nat) (fv lv : Value) (acc : List EntR) : Prop :=
  wr.heap[bt]? = some (.cells #[lv, fv] 76 (0, 0)) ∧ ROw wr w.heap.size lv acc ∧ w.grownBy wr (some bt)
theorem PEo.box' {w w' : World} {base b : Nat} {cs : Array Value} {x : List Value} {e : EntR} {fr : Nat × Nat} (h : PEo w base x e) (hb : w.heap[b]? = some (.cells cs 76 fr)) (hg : w.grownBy w' (some b)) : PEo w' base x e := by
  obtain ⟨kv, vv, hx, h1, h2⟩ := h
  exact ⟨kv, vv, hx, h1.other hg (.inr (h1.ne_blk hb (by decide))), h2.other hg (.inr (h2.ne_blk hb (by decide)))⟩
theorem RdT.below {w wr w' : World} {bt : Nat} {fv lv : Value} {acc : List EntR} (h : RdT w wr bt fv lv acc) (hb : Below wr.heap.size wr w') : RdT w w' bt fv lv acc :=
  ⟨blk_below hb h.1, h.2.1.below hb, grown_below h.2.2 hb⟩
/-- The entries of one block more. -/
theorem RdT.push {w w1 w3 : World} {bt : Nat} {fv lv lv' : Value} {acc more : List EntR} {V U : List (List Value)} (h1 : w1.heap[bt]? = some (.cells #[lv, fv] 76 (0, 0))) (hV : OV w1 w.heap.size 29 5 lv V) (hVr : RelV noEnt (PEo w1 w.heap.size) V acc) (hgr : w.grownBy w1 (some bt)) (hUr : RelV noEnt (PEo w1 w.heap.size) U more)
    (hg : w1.grownBy w3 lv.ownBlock) (hV3 : OV w3 w.heap.size 29 5 lv' (V ++ U)) (hlt : bt < w.heap.size) : RdT w (w3.setCell ⟨bt, 0, none⟩ lv') bt fv lv' (acc ++ more) := by
  have hb3 : w3.heap[bt]? = some (.cells #[lv, fv] 76 (0, 0)) := blk_grown' hg h1 (hV.ne_blk h1 (by decide))
  have hgs := grown_set w3 bt 0 lv'
  refine ⟨set2_0 _ hb3, ⟨V ++ U, hV3.other hgs (.inr (hV3.ne_blk hb3 (by decide))), ?_⟩, ?_⟩
  · exact ((hVr.mono fun x a hx => hx.grown hg hV).app (hUr.mono fun x a hx => hx.grown hg hV)).mono fun x a hx => hx.box' hb3 hgs
  · refine ⟨hgs.os.trans (hg.os.trans hgr.os), hgs.tape.trans (hg.tape.trans hgr.tape), hgs.output.trans (hg.output.trans hgr.output), Nat.le_trans hgr.size (Nat.le_trans hg.size hgs.size), fun i hi hne => ?_⟩
    have hi1 := Nat.lt_of_lt_of_le hi hgr.size
    have hi3 := Nat.lt_of_lt_of_le hi1 hg.size
    rw [hgs.block i hi3 hne, hg.block i hi1 ?_, hgr.block i hi hne]
    intro e
    have := hV.base_ i e.symm
    omega
/-- What read answers. -/
def ReadC (w w' : World) (bt : Nat) (fv : Value) (RT : Option (List EntR)) (er : Int) : Prop :=
  match RT with
  | none => er ≠ 0 ∧ w.grownBy w' (some bt)
  | some es => er = 0 ∧ ∃ lv, RdT w w' bt fv lv es
/-- What the label finds. -/
def RdZ (w : World) (bt : Nat) (fv : Value) (RT : Option (List EntR)) (t0 t1 t2 : Value) (a' : Act) (w' : World) : Prop := ∃ (er : Int) (u3 u4 u5 u6 u8 u9 u10 u11 u12 u13 u14 u15 u16 u17 u18 u19 u20 u21 u22 u23 u24 u25 u26 u27 u28 u29 u30 u31 u32 u33 u34 u35 u36 u37 u38 u39 u40 u41 u42 u43 u44 u45 u46 u47 u48 u49 u50 u51 u52 u53 u54 u55 u56 u57 u58 u59 u60 u61 u62 u63 u64 u65 u66 u67 u68 u69 u70 u71 u72 : Value), a' = { tmps := #[t0, t1, t2, u3, u4, u5, u6, .int .i64 er, u8, u9, u10, u11, u12, u13, u14, u15, u16, u17, u18, u19, u20, u21, u22, u23, u24, u25, u26, u27, u28, u29, u30, u31, u32, u33, u34, u35, u36, u37, u38, u39, u40, u41, u42, u43, u44, u45, u46, u47, u48, u49, u50, u51, u52, u53, u54, u55, u56, u57, u58, u59, u60, u61, u62, u63, u64, u65, u66, u67, u68, u69, u70, u71, u72], defers := [] } ∧ ReadC w w' bt fv RT er
theorem rdsL_at {xs : List UInt8} {ps : List (Nat × Nat)} {acc : List EntR} {k : Nat} (h : k < ps.length) : rdsL xs (ps.drop k) acc = match decF (cutS xs (elt noPl ps k).1 (elt noPl ps k).2) with | none => none | some more => if 4000 < acc.length then some acc else rdsL xs (ps.drop (k + 1)) (acc ++ more) := by
  have e : ps.drop k = elt noPl ps k :: ps.drop (k + 1) := by
    rw [List.drop_eq_getElem_cons h]
    unfold elt
    simp [h]
  rw [e, rdsL]
  cases decF (cutS xs (elt noPl ps k).1 (elt noPl ps k).2) <;> rfl
theorem RB.setl {w w' : World} {A : Option Addr} {n : Nat} {xs : List UInt8} {bt : Nat} (h : RB w A n xs) (hg : w.grownBy w' (some bt)) (hne : ∀ ad : Addr, A = some ad → ad.block ≠ bt) : RB w' A n xs := h.grown hg fun ad e he => hne ad e (Option.some.inj he)
theorem RPl.setl {w w' : World} {A : Option Addr} {n : Nat} {ps : List (Nat × Nat)} {bt : Nat} (h : RPl w A n ps) (hg : w.grownBy w' (some bt)) (hne : ∀ ad : Addr, A = some ad → ad.block ≠ bt) : RPl w' A n ps :=
  ⟨h.1, h.2.1, fun h0 => by
    obtain ⟨ad, e, hc⟩ := h.2.2 h0
    have hn := hne ad e
    refine ⟨ad, e, fun j hj => ⟨hg.cell (hc j hj).1 (by rw [block_of_add]; intro he; exact hn (Option.some.inj he)), hg.cell (hc j hj).2 (by rw [show (⟨(ad.add (j * 2)).block, (ad.add (j * 2)).off + 1, none⟩ : Addr).block = ad.block from block_of_add _ _]; intro he; exact hn (Option.some.inj he))⟩⟩⟩
theorem all_upto {α : Type} {d : α} {f : α → Bool} {l : List α} (h : ∀ j, j < l.length → f (elt d l j) = true) : l.all f = true := by
  rw [List.all_eq_true]
  intro x hx
  obtain ⟨j, hj, rfl⟩ := List.getElem_of_mem hx
  have := h j hj
  rwa [elt_get d hj] at this
set_option maxHeartbeats 64000000 in
set_option maxRecDepth 200000 in
theorem read_tab (bt : Nat) (fv : Value) (A : Option Addr) (n c : Nat) (xs : List UInt8) (B : Option Addr) (m d : Nat) (ps : List (Nat × Nat)) (w : World) (hbx : w.heap[bt]? = some (.cells #[.slice none 0 0, fv] 76 (0, 0))) (h : RB w A n xs) (hc : n ≤ c) (hsz : n ≤ 100000000) (hp : RPl w B m ps)
    (hin : ∀ j, j < m → (elt noPl ps j).1 + (elt noPl ps j).2 + 4 ≤ n) (hneA : ∀ ad : Addr, A = some ad → ad.block ≠ bt) (hneB : ∀ ad : Addr, B = some ad → ad.block ≠ bt) :
    Calls Tryd.prog 39 #[.pointer (some ⟨bt, 0, none⟩), .slice A n c, .slice B m d] w fun r w' => ∃ er : Int, r = .returned (.int .i64 er) ∧ ReadC w w' bt fv (readT xs ps) er := by
  have hl := h.1
  have hml := hp.1
  have hmm := hp.2.1
  have hbt : bt < w.heap.size := blk_lt hbx
  have H := hid h
  have HP := hid hp
  have HIn := hid hin
  have HneA := hid hneA
  have HneB := hid hneB
  have HBx := hid hbx
  obtain ⟨RT, hRT⟩ : ∃ RT, readT xs ps = RT := ⟨_, rfl⟩
  have hRT2 := hRT
  unfold readT at hRT2
  have HRTb : Hid (∀ k, k < m → soundB xs (elt noPl ps k).1 (elt noPl ps k).2 = false → RT = none) := hid (fun k hk hf => by
    rw [← hRT2, if_neg]
    intro hall
    have := List.all_eq_true.1 hall (elt noPl ps k) (by unfold elt; simp [show k < ps.length by omega])
    rw [hf] at this
    cases this)
  have HRTg : Hid ((∀ k, k < m → soundB xs (elt noPl ps k).1 (elt noPl ps k).2 = true) → rdsL xs (ps.drop 0) [] = RT) := hid (fun hall => by
    rw [← hRT2, if_pos (all_upto (d := noPl) (f := fun p : Nat × Nat => soundB xs p.1 p.2) (fun j hj => hall j (by omega)))]
    rfl)
  have HStep : Hid (∀ k acc, k < m → rdsL xs (ps.drop k) acc = match decF (cutS xs (elt noPl ps k).1 (elt noPl ps k).2) with | none => none | some more => if 4000 < acc.length then some acc else rdsL xs (ps.drop (k + 1)) (acc ++ more)) := hid (fun k acc hk => rdsL_at (by omega))
  have HEnd : Hid (∀ acc, rdsL xs (ps.drop m) acc = some acc) := hid (fun acc => by rw [List.drop_of_length_le (by omega)]; rfl)
  rw [hRT]
  clear hRT hRT2 h hp hin hneA hneB hl hml hbx
  go_enter Tryd.func39, Tryd.ntmps39
  go_wp2
  refine wp_scope_ghost 0 (fun _ => RdZ w bt fv RT (.pointer (some ⟨bt, 0, none⟩)) (.slice A n c) (.slice B m d)) rfl ?_ ?_
  · rintro k a' w' hz
    unfold RdZ at hz
    obtain ⟨er, u3, u4, u5, u6, u8, u9, u10, u11, u12, u13, u14, u15, u16, u17, u18, u19, u20, u21, u22, u23, u24, u25, u26, u27, u28, u29, u30, u31, u32, u33, u34, u35, u36, u37, u38, u39, u40, u41, u42, u43, u44, u45, u46, u47, u48, u49, u50, u51, u52, u53, u54, u55, u56, u57, u58, u59, u60, u61, u62, u63, u64, u65, u66, u67, u68, u69, u70, u71, u72, rfl, hrc⟩ := hz
    go_wp2
    simp only [Exit.jump]
    go_ret
    exact ⟨er, rfl, hrc⟩
  intro hpass
  go_wp2
  go_loopw [7, 17] (fun ev i wr => ∃ k : Nat, k ≤ m ∧ i = .int .i64 k ∧ ev = .int .i64 0 ∧ (∀ j, j < k → soundB xs (elt noPl ps j).1 (elt noPl ps j).2 = true) ∧ Below w.heap.size w wr) (fun _ i _ => m - (intOf i).toNat)
  case atStart => exact ⟨0, Nat.zero_le _, rfl, rfl, fun j hj => absurd hj (by omega), Below.refl _ _⟩
  case round =>
    obtain ⟨k, hk, rfl, rfl, hall, hB⟩ := hrel
    have HA := hid hall
    clear hall
    by_cases hlt : k < m
    · obtain ⟨ad, rfl, hcell⟩ := HP.out.at_ hlt
      have hink := HIn.out k hlt
      have HF := hid (HRTb.out k hlt)
      have HA2 : Hid (soundB xs (elt noPl ps k).1 (elt noPl ps k).2 = true → ∀ j, j < k + 1 → soundB xs (elt noPl ps j).1 (elt noPl ps j).2 = true) := by
        intro h j hj
        rcases Nat.lt_succ_iff_lt_or_eq.1 hj with h1 | h1
        · exact HA.out j h1
        · rw [h1]; exact h
      generalize elt noPl ps k = p at *
      obtain ⟨pa, pm⟩ := p
      simp only at hink HF HA2
      have q0 := below_cell hB hcell.1
      have q1 := below_cell hB hcell.2
      simp only at q0 q1
      have HPc := hid (fun u (hu : Below w.heap.size w u) => piece_any A n c xs pa pm u (H.out.below hu) hc hink (by omega))
      have hBa := below_alloc' hB (.cells #[.int .u64 (pa : Int), .int .u64 (pm : Int)] 99)
      clear hcell
      cases hs : soundB xs pa pm
      · have HE : Hid (RT = none) := hid (HF.out hs)
        have HS := hid hs
        clear hs
        go_wp2_with (go_at_call 35; refine (HPc.out _ (by first | exact hBa | exact HBa.out)).mono ?_; rintro e w6 ⟨A6, c6, rfl, hr6, hc6, rfl⟩; rw [HS.out])
        refine wp_goto ⟨rfl, 0, ?_⟩
        unfold RdZ
        exact ⟨4, _, _, _, _, _, _, _, _, _, _, _, _, _, _, _, _, _, _, _, _, _, _, _, _, _, _, _, _, _, _, _, _, _, _, _, _, _, _, _, _, _, _, _, _, _, _, _, _, _, _, _, _, _, _, _, _, _, _, _, _, _, _, _, _, _, _, _, _, _, rfl, by unfold ReadC; rw [HE.out]; exact ⟨by decide, below_grown hBa _⟩⟩
      · have HA3 := hid (HA2.out hs)
        have HS := hid hs
        clear hs
        go_wp2_with (go_at_call 35; refine (HPc.out _ (by exact hBa)).mono ?_; rintro e w6 ⟨A6, c6, rfl, hr6, hc6, rfl⟩; rw [HS.out])
        go_roundw
        case rel => exact ⟨k + 1, by omega, by go_num, rfl, HA3.out, hBa⟩
        case measure => simp [intOf]; omega
    · obtain rfl : k = m := by omega
      have HR0 := hid (HRTg.out HA.out)
      have hbx1 := blk_below hB HBx.out
      have HT0 : Hid (RdT w wr bt fv (.slice none 0 0) []) := hid ⟨hbx1, ROw.nil _ _, below_grown hB _⟩
      clear HA HRTb HRTg hB hbx1
      go_wp2
      go_loopw [35, 7] (fun i ev wr2 => ∃ (q : Nat) (acc : List EntR) (lv : Value), q ≤ k ∧ i = .int .i64 q ∧ ev = .int .i64 0 ∧ RdT w wr2 bt fv lv acc ∧ rdsL xs (ps.drop q) acc = RT ∧ acc.length ≤ 4400) (fun i _ _ => k - (intOf i).toNat)
      case atStart => exact ⟨0, [], _, Nat.zero_le _, rfl, rfl, HT0.out, HR0.out, by simp⟩
      case round =>
        clear HT0 HR0
        obtain ⟨q, acc, lv, hq, rfl, rfl, hT, hrt, hacc⟩ := hrel
        by_cases hlt2 : q < k
        · have hst := HStep.out q acc hlt2
          rw [hrt] at hst
          have hgr := hT.2.2
          obtain ⟨ad, rfl, hcell⟩ := (HP.out.setl hgr HneB.out).at_ hlt2
          have hink := HIn.out q hlt2
          generalize elt noPl ps q = p at *
          obtain ⟨pa, pm⟩ := p
          simp only at hink hst
          obtain ⟨q0, q1⟩ := hcell
          simp only at q0 q1
          obtain ⟨Q, hQ⟩ : ∃ Q : Nat, pa + pm = Q := ⟨_, rfl⟩
          have hQi : (pa : Int) + (pm : Int) = (Q : Int) := by omega
          have hwq := wrap_u64_nat Q (by omega)
          obtain ⟨A2, c2, hcut, hrb, hc2⟩ := cutBu (A := A) hc (lo := pa) (hi := Q) (by omega) (by omega) (pa : Int) (Q : Int) rfl rfl
          rw [show Q - pa = pm by omega] at hcut hrb hc2
          have HRb : Hid (RB wr A2 pm (cutS xs pa pm)) := hid (hrb _ _ (H.out.setl hgr HneA.out))
          have hBa := below_alloc' (Below.refl wr.heap.size wr) (.cells #[.int .u64 (pa : Int), .int .u64 (pm : Int)] 99)
          have HDc := hid (decode_any A2 pm c2 (cutS xs pa pm) _ (HRb.out.below hBa) hc2 (by omega))
          have HT := hid hT
          have HSt := hid hst
          clear hrb hT hst hrt hgr hQ
          cases hdf : decF (cutS xs pa pm) with
          | none =>
            have HE : Hid (RT = none) := hid (by rw [HSt.out, hdf])
            have HD := hid hdf
            clear hdf
            go_wp2_with (go_at_call 56; refine (HDc.out).mono ?_; intro r w1 hdc; unfold DecC at hdc; rw [HD.out] at hdc; obtain ⟨⟨er, her, rfl⟩, hb1⟩ := hdc; have hzb : (er != 0) = true := (by simpa using her); have HB1 := hid (below_then hBa hb1))
            refine wp_goto ⟨rfl, 0, ?_⟩
            unfold RdZ
            exact ⟨er, _, _, _, _, _, _, _, _, _, _, _, _, _, _, _, _, _, _, _, _, _, _, _, _, _, _, _, _, _, _, _, _, _, _, _, _, _, _, _, _, _, _, _, _, _, _, _, _, _, _, _, _, _, _, _, _, _, _, _, _, _, _, _, _, _, _, _, _, _, rfl, by unfold ReadC; rw [HE.out]; exact ⟨her, grown_below HT.out.2.2 HB1.out⟩⟩
          | some more =>
            have HD := hid hdf
            have hfm := decF_some hdf
            have hmore : more.length ≤ 400 := hfm.1.2.1
            have HSt2 : Hid (RT = if 4000 < acc.length then some acc else rdsL xs (ps.drop (q + 1)) (acc ++ more)) := hid (by rw [HSt.out, hdf])
            obtain ⟨hbx2, ⟨V, hV, hVr⟩, hgr⟩ := HT.out
            have hVl : V.length = acc.length := hVr.1
            obtain ⟨Al, cl, hlv, hcl⟩ := hV.openN acc.length hVl
            subst hlv
            have HV := hid hV
            have HVr := hid hVr
            clear hdf hfm HSt hV hVr hbx2
            by_cases hbig : 4000 < acc.length
            · have HE : Hid (RT = some acc) := hid (by rw [HSt2.out, if_pos hbig])
              have hd4 : decide ((4000 : Int) < (acc.length : Int)) = true := decide_eq_true (by omega)
              go_wp2_with (go_at_call 56; refine (HDc.out).mono ?_; intro r w1 hdc; unfold DecC at hdc; rw [HD.out] at hdc; obtain ⟨v1, rfl, ho1, hb1⟩ := hdc; have HB1 := hid (below_then hBa hb1); have hT1 := HT.out.below HB1.out; have c0 := box_at hT1.1 0 _ rfl; have HT1 := hid hT1; clear hT1 ho1 hb1)
              refine wp_goto ⟨rfl, 0, ?_⟩
              unfold RdZ
              exact ⟨0, _, _, _, _, _, _, _, _, _, _, _, _, _, _, _, _, _, _, _, _, _, _, _, _, _, _, _, _, _, _, _, _, _, _, _, _, _, _, _, _, _, _, _, _, _, _, _, _, _, _, _, _, _, _, _, _, _, _, _, _, _, _, _, _, _, _, _, _, _, rfl, by unfold ReadC; rw [HE.out]; exact ⟨rfl, _, HT1.out⟩⟩
            · have HE : Hid (rdsL xs (ps.drop (q + 1)) (acc ++ more) = RT) := hid (by rw [HSt2.out, if_neg hbig])
              have hd4 : decide ((4000 : Int) < (acc.length : Int)) = false := decide_eq_false (by omega)
              have hgsz := hgr.size
              go_wp2_with (first
                | (go_at_call 56; refine (HDc.out).mono ?_; intro r w1 hdc; unfold DecC at hdc; rw [HD.out] at hdc; obtain ⟨v1, rfl, ⟨U, hU, hUr⟩, hb1⟩ := hdc; have HB1 := hid (below_then hBa hb1); have hT1 := HT.out.below HB1.out; have c0 := box_at hT1.1 0 _ rfl; have f0 := frozen_of_row w1 bt 0 _ _ hT1.1; have hUl : U.length = more.length := hUr.1; obtain ⟨Am, cm, rfl, hcm⟩ := hU.openN more.length hUl; have HT1 := hid hT1; have HV1 := hid (HV.out.below HB1.out); have HVr1 := hid (HVr.out.mono fun x a hx => hx.below HB1.out); have hsz1 := HB1.out.size; have hbase1 : w.heap.size ≤ wr.heap.size + 1 := (by omega); have HU := hid hU; have HUr : Hid (RelV noEnt (PEo w1 w.heap.size) U more) := hid (hUr.mono fun x a hx => hx.mono (by simpa using hbase1)); have HUe := hid (hUr.mono fun x a hx => hx.reads); clear hT1 hU hUr hb1)
                | (at_builtin; go_loud (refine wpV_append 22 29 _ 5 72 Tryd.underlying22 eninfo rfl (by omega) w1 w1 w.heap.size rfl (.tmp 66) (.tmp 67) rfl (.slice Al acc.length cl) V rfl HV1.out Am more.length cm U rfl (HU.out.reads hUl) HU.out.2 hUl HUe.out.ones (by rw [hVl]; simp only [maxLen]; omega) (by rw [hVl]; omega) (Below.refl _ _) (Nat.le_trans hgsz hsz1) ?_); intro v3 w3 hown3 hB3 hg3 hat3; obtain ⟨A9, c9, rfl, _⟩ := hown3.openN (acc.length + more.length) (by rw [List.length_append, hVl, hUl]); go_loud (have HT3 := hid (RdT.push (fv := fv) HT1.out.1 HV1.out HVr1.out HT1.out.2.2 HUr.out hg3 hown3 hbt)); go_loud (have hb3 := blk_grown' hg3 HT1.out.1 (HV1.out.ne_blk HT1.out.1 (by decide))); have f3 := fun i => frozen_of_row w3 bt i _ _ hb3; have c3 := box_at hb3 0 _ rfl; clear hown3 hB3 hg3 hat3 hb3))
              go_roundw
              case rel => exact ⟨q + 1, acc ++ more, _, by omega, by go_num, rfl, HT3.out, HE.out, by rw [List.length_append]; omega⟩
              case measure => simp [intOf]; omega
        · obtain rfl : q = k := by omega
          have HE : Hid (RT = some acc) := hid (by rw [← hrt, HEnd.out])
          have HT := hid hT
          clear hrt hT
          go_wp2
          refine wp_label_k (by assumption) ?_
          go_wp2
          simp only [Exit.jump]
          go_ret
          exact ⟨0, rfl, by unfold ReadC; rw [HE.out]; exact ⟨rfl, _, HT.out⟩⟩
end Go.Proofs.YtkkclkknpjapcaaDoor
