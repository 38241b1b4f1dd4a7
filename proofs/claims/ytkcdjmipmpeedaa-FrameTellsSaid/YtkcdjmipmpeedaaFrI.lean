/- Layer 6: rows of records: the walk of rows. -/
import Derived.Test.YtkcdjmipmpeedaaFrM
import Derived.Test.YtkcdjmipmpeedaaOI
namespace Go.Proofs.Ytkcdjmipmpeedaa
open Go.RowKit
set_option linter.unusedVariables false
set_option linter.unusedSimpArgs false

theorem elemS : Try.prog.underlying 30 = some (.slice (Try.prog.elem 30)) := by kernel_rfl
theorem sizeS (w : World) : (sizeOf (Try.prog.elem 30)).run Try.prog w = .ok 1 w := by
  obtain ⟨i, hi, _, hs, _⟩ := info_parts bsinfo
  have he : Try.prog.elem 30 = 22 := by kernel_rfl
  rw [he]
  simp [sizeOf, typeInfo, hi, hs]
theorem elt_take {α : Type} (d : α) (l : List α) {i k : Nat} (h : i < k) : elt d (l.take k) i = elt d l i := by
  unfold elt
  simp [List.getElem?_take, h]
theorem RBs.pre {w : World} {A : Option Addr} {n hi : Nat} {xss : List (List UInt8)} (h : RBs w A n xss) (h1 : hi ≤ n) : RBs w A hi (xss.take hi) := by
  have hl := h.1
  have hm := h.2.1
  refine ⟨by rw [List.length_take]; omega, by omega, fun hn => ?_⟩
  obtain ⟨ad, e, hc⟩ := h.2.2 (by omega)
  refine ⟨ad, e, fun j hj => ?_⟩
  rw [elt_take _ _ hj]
  exact hc j (by omega)
theorem cutS_hi {A : Option Addr} {n c : Nat} (hc : n ≤ c) {hi : Nat} (h1 : hi ≤ n) (H : Int) (hH : H = (hi : Int)) :
    ∃ c2, (∀ w, (Instr.slice 30 (.slice A n c) none (some (.int .i64 H)) none).run Try.prog w = .ok (.slice A hi c2) w) ∧ (∀ w xss, RBs w A n xss → RBs w A hi (xss.take hi)) ∧ hi ≤ c2 := by
  subst hH
  refine ⟨c, fun w => ?_, fun w xss h => h.pre h1, by omega⟩
  rw [run_slice_h (P := Try.prog) w 30 A n c elemS .i64 hi (by omega) (by omega), sizeS]
  cases A <;> simp [sliced, Result.andThen, Addr.add]
theorem OI.blk' {w : World} {base : Nat} {v : Value} {zs : List Int} (h : OI w base v zs) : v.ownBlock = none ∨ ∃ g cur, v.ownBlock = some g ∧ w.heap[g]? = some (.cells cur 3 (0, 0)) := by
  rcases h.2 with ⟨rfl, _⟩ | ⟨g, cap, cur, rfl, _, hg, _⟩
  · exact .inl rfl
  · exact .inr ⟨g, cur, rfl, hg⟩
theorem own_types_ne_int {w : World} {base base' : Nat} {v v2 : Value} {xs : List UInt8} {zs : List Int} (h : OB w base v xs) (h2 : OI w base' v2 zs) : v.ownBlock = none ∨ v.ownBlock ≠ v2.ownBlock := by
  rcases h.blk' with e | ⟨g, cur, e, hg⟩
  · exact .inl e
  · right
    rw [e]
    intro hx
    rcases h2.blk' with e2 | ⟨g2, cur2, e2, hg2⟩
    · rw [e2] at hx; cases hx
    · rw [e2] at hx
      injection hx with hx
      subst hx
      rw [hg] at hg2
      injection hg2 with h3
      injection h3 with _ h4
      exact absurd h4 (by decide)
/-- append of one number, with what it leaves alone. -/
theorem wpI_append1g {ops : Array Oper} {rest : List Oper} {o : Oper} {a : Act} {Q : Exit → Act → World → Prop} (w0 w : World) (base : Nat) (hgd : o.guard = none) (s x : Operand)
    (ho : o.op = .call { callee := .builtin .append, args := #[s, x], argTypes := #[38, 38] })
    (v : Value) (zs : List Int) (hs : a.eval s = v) (hown : OI w base v zs) (z : Int) (c g : Nat) (hg : g = w.heap.size) (hx : a.eval x = .slice (some ⟨g, 0, none⟩) 1 c)
    (hbytes : (zs.length + 1) * 8 ≤ 140737488355328) (hB : Below base w0 w) (hbase : base ≤ w.heap.size)
    (h : ∀ v' w', OI w' base v' (zs ++ [z]) → Below base w0 w' → w.grownBy w' v.ownBlock → wpList Try.prog ops Q rest (a.put o.dst v') w') : wpList Try.prog ops Q (o :: rest) a (w.alloc (.cells #[.int .i64 z] 3)) := by
  subst hg
  have hB1 : Below base w0 (w.alloc (.cells #[.int .i64 z] 3)) := hB.alloc hbase _
  have hr : Reads (w.alloc (.cells #[.int .i64 z] 3)) 1 (some ⟨w.heap.size, 0, none⟩) 1 (ints [z]) := Reads.block (heap_alloc_new w _) rfl
  refine wpList_append_any _ hgd s x _ ho base 3 (.int .i64 0) 1 8 Try.underlying38 intinfo rfl (by omega) v zs.length (ints zs) hs (World.ownsRow.alloc hown _) _ 1 c (ints [z]) hx hr (ints_one _) (by simp only [maxLen]; omega) hbytes (by simp; omega) ?_
  intro v' w' h1 h2 h3
  refine h v' w' ?_ (hB1.grown h2 (by simp; omega) (own_base hown)) (grown_step (v0 := v) (World.grownBy_alloc w _ _) (AtRow.refl _ v) h2)
  show w'.ownsRow _ _ _ _ _ _
  rw [List.length_append, ints_append]
  exact h1
def endsL (xss : List (List UInt8)) (k : Nat) : List Int := (List.range k).map fun i => ((catF xss (i + 1)).length : Int)
theorem endsL_next (xss : List (List UInt8)) (k : Nat) : endsL xss k ++ [((catF xss (k + 1)).length : Int)] = endsL xss (k + 1) := by
  unfold endsL
  rw [List.range_succ, List.map_append]
  rfl
theorem endsL_len (xss : List (List UInt8)) (k : Nat) : (endsL xss k).length = k := by simp [endsL]
theorem endsL_at {xss : List (List UInt8)} {k i : Nat} (hi : i < k) : elt 0 (endsL xss k) i = ((catF xss (i + 1)).length : Int) := by
  unfold elt endsL
  simp [hi]
set_option maxHeartbeats 8000000 in
theorem rows_any (A : Option Addr) (n c : Nat) (xss : List (List UInt8)) (w : World) (h : RBs w A n xss) :
    Calls Try.prog 17 #[.slice A n c] w fun e w' => (Rows1 n xss ∧ ∃ v ve, e = .returned (.tuple #[v, ve, .bool true]) ∧ OB w' w.heap.size v (catF xss n) ∧ OI w' w.heap.size ve (endsL xss n) ∧ Below w.heap.size w w') ∨ (¬ Rows1 n xss ∧ e = .returned (.tuple #[.slice none 0 0, .slice none 0 0, .bool false]) ∧ Below w.heap.size w w') := by
  have hm := h.2.1
  have H := hid h
  clear h
  go_enter Try.func17, Try.ntmps17
  go_wp2
  go_loopw [5, 6, 13] (fun b ve i wr => ∃ k : Nat, k ≤ n ∧ i = .int .i64 k ∧ OB wr w.heap.size b (catF xss k) ∧ OI wr w.heap.size ve (endsL xss k) ∧ Below w.heap.size w wr ∧ k ≤ 20 ∧ ∀ j, j < k → (elt [] xss j).length ≤ 2000) (fun b ve i wr => n - (intOf i).toNat)
  case atStart => exact ⟨0, Nat.zero_le _, rfl, OB.nil _ _, OI.nil _ _, Below.refl _ _, by omega, fun j hj => absurd hj (by omega)⟩
  case round =>
    obtain ⟨k, hk, rfl, hown, hoi, hB, hk20, hall⟩ := hrel
    have hcl := catF_len hall k (Nat.le_refl _)
    have HA := hid hall
    clear hall
    by_cases hlt : k < n
    · obtain ⟨ad, rfl, Aj, nj, cj, hcell, hrb, hle⟩ := H.out.at_ hlt
      have hcell2 := below_cell hB hcell
      have hjl : (elt [] xss k).length = nj := hrb.1
      have hjm := hrb.2.1
      have HJ := hid hjl
      clear hjl hcell
      by_cases h20 : 20 ≤ k
      · have hk20i : (20 : Int) ≤ (k : Int) := by omega
        have hno : ¬ Rows1 n xss := fun h => absurd h.1 (by omega)
        clear h20
        have HNO := hid hno
        clear hno
        go_wp2
        go_ret3
        exact .inr ⟨HNO.out, rfl, hB⟩
      · have hk20i : ¬ ((20 : Int) ≤ (k : Int)) := by omega
        by_cases hbig : 2000 < nj
        · have hno : ¬ Rows1 n xss := fun h => absurd (h.2 k hlt) (by rw [HJ.out]; omega)
          have HNO := hid hno
          clear hno
          go_wp2
          go_ret3
          exact .inr ⟨HNO.out, rfl, hB⟩
        · obtain ⟨L, hL⟩ : ∃ L, (catF xss k).length = L := ⟨_, rfl⟩
          obtain ⟨L2, hL2⟩ : ∃ L, (catF xss (k + 1)).length = L := ⟨_, rfl⟩
          rw [hL] at hcl
          obtain ⟨A1, c1, rfl, hr1, hc1⟩ := hown.openN L hL
          have hE : fputE nj = 0 := by unfold fputE; rw [if_neg (by omega)]
          have hF : fputB (catF xss k) (elt [] xss k) = catF xss (k + 1) := by unfold fputB; rw [if_neg (by rw [HJ.out]; omega)]; rfl
          have HE := hid hE
          have HF := hid hF
          have HL2 := hid hL2
          clear hE hF hL hL2 hown
          go_wp2_with (first
            | (go_at_call 8; (with_reducible refine (fput_any A1 L c1 (catF xss k) Aj nj cj (elt [] xss k) _ hr1 (hrb.below hB) (by omega)).mono ?_); rintro e w1 ⟨v1, rfl, hown1, hb1⟩; rw [HE.out]; rw [HF.out] at hown1; obtain ⟨A2, c2, rfl, hr2, hc2⟩ := hown1.openN L2 HL2.out; have hoi1 := hoi.below hb1; have hB1 := below_then hB hb1)
            | (at_builtin; refine wpI_append1g w w1 w.heap.size rfl (.tmp 34) (.tmp 37) rfl _ (endsL xss k) rfl (by exact hoi1) (L2 : Int) 1 _ rfl rfl (by rw [endsL_len]; omega) hB1 hB1.size ?_; intro v2 w2 hoi2 hB2 hg2))
          go_roundw
          case rel =>
            refine ⟨k + 1, by omega, by go_num, (hown1.mono hB.size).other hg2 (own_types_ne_int hown1 hoi1), by rw [← endsL_next, HL2.out]; exact hoi2, hB2, by omega, fun j hj => ?_⟩
            by_cases hjk : j < k
            · exact HA.out j hjk
            · obtain rfl : j = k := by omega
              rw [HJ.out]; omega
          case measure => simp [intOf]; omega
    · obtain rfl : k = n := by omega
      go_wp2
      go_ret3
      exact .inl ⟨⟨hk20, HA.out⟩, _, _, rfl, hown, hoi, hB⟩
theorem rows_no (A : Option Addr) (n c : Nat) (xss : List (List UInt8)) (w : World) (h : RBs w A n xss) (hf : ¬ Rows1 n xss) :
    Calls Try.prog 17 #[.slice A n c] w fun e w' => e = .returned (.tuple #[.slice none 0 0, .slice none 0 0, .bool false]) ∧ Below w.heap.size w w' :=
  (rows_any A n c xss w h).mono fun e w' hr => by
    rcases hr with ⟨h1, _⟩ | ⟨_, h2⟩
    · exact absurd h1 hf
    · exact h2
theorem rows_yes (A : Option Addr) (n c : Nat) (xss : List (List UInt8)) (w : World) (h : RBs w A n xss) (hf : Rows1 n xss) :
    Calls Try.prog 17 #[.slice A n c] w fun e w' => ∃ v ve, e = .returned (.tuple #[v, ve, .bool true]) ∧ OB w' w.heap.size v (catF xss n) ∧ OI w' w.heap.size ve (endsL xss n) ∧ Below w.heap.size w w' :=
  (rows_any A n c xss w h).mono fun e w' hr => by
    rcases hr with ⟨_, h1⟩ | ⟨h2, _⟩
    · exact h1
    · exact absurd hf h2
end Go.Proofs.Ytkcdjmipmpeedaa
