/- Shared texts, part S15: BkM, OI, R2. -/
import Derived.BigQuiet
import Derived.Test.YtkkclkknpjapcaaDoorS14
import Derived.Test.YtkkclkknpjapcaaDoorS05
import Derived.Test.YtkkclkknpjapcaaDoorS02
import Derived.Test.YtkkclkknpjapcaaDoorS04
/-! ### BkM -/
namespace Go.Proofs.YtkkclkknpjapcaaDoor
open Go.RowKit
set_option linter.unusedVariables false
set_option linter.unusedSimpArgs false

set_option maxHeartbeats 16000000 in
set_option maxRecDepth 100000 in
theorem bkmay_any (Ak : Option Addr) (nk ck : Nat) (s : Int) (g : Bool) (u : Int) (Av : Option Addr) (nv cv : Nat) (w : World) (hk : nk ≤ 9223372036854775807) (hv : nv ≤ 9223372036854775807) :
    Calls Tryd.prog 49 #[.agg #[.slice Ak nk ck, .int .i64 s, .bool g, .int .i64 u, .slice Av nv cv]] w fun e w' => e = .returned (.bool (mayN nk s g u nv)) ∧ Below w.heap.size w w' := by
  cases g
  all_goals
    go_enter Tryd.func49, Tryd.ntmps49
    go_wp2
    all_goals
      go_ret
      refine ⟨ret_bool ?_, below_alloc' (Below.refl _ _) _⟩
      try simp only [beq_iff_eq, beq_eq_false_iff_ne] at *
      unfold mayN
      first
      | rfl
      | (rw [eq_comm, decide_eq_false_iff_not]; simp; omega)
      | (rw [eq_comm, decide_eq_true_iff]; simp; omega)
      | (rw [decide_eq_decide]; simp; omega)
      | (rw [Bool.eq_iff_iff]; simp; omega)
      | (trace_state; simp; omega)
set_option maxHeartbeats 16000000 in
set_option maxRecDepth 100000 in
theorem bkordered_any (A : Option Addr) (n c : Nat) (es : List EntR) (w : World) (h : REnts w A n es) :
    Calls Tryd.prog 48 #[.slice A n c] w fun e w' => e = .returned (.bool (srtB es)) ∧ Below w.heap.size w w' := by
  have hl := h.1
  have hm := h.2.1
  have HS : Hid (∀ k, n ≤ k → ordN es k → srtB es = true) := fun k hk ho => srtB_true (ordN_Srt fun i h1 h2 => ho i h1 (by omega))
  have HN : Hid (∀ k, 1 ≤ k → k < n → aheadE (elt noEnt es (k - 1)) (elt noEnt es k) = false → srtB es = false) := fun k h1 h2 h3 => srtB_false fun hs => by
    rw [hs.at_ (k - 1) k (by omega) (by omega)] at h3
    cases h3
  have H := hid h
  clear h hl
  go_enter Tryd.func48, Tryd.ntmps48
  go_wp2
  go_loopw [3] (fun i wr => ∃ k : Nat, 1 ≤ k ∧ i = .int .i64 k ∧ ordN es k ∧ Below w.heap.size w wr) (fun i wr => n - (intOf i).toNat)
  case atStart => exact ⟨1, by omega, rfl, fun i h1 h2 => by omega, Below.refl _ _⟩
  case round =>
    obtain ⟨k, hk, rfl, ho, hBr⟩ := hrel
    by_cases hlt : k < n
    · obtain ⟨ad, rfl, hc1⟩ := (H.out.below hBr).at_ (show k - 1 < n by omega)
      obtain ⟨ad2, hae, hc2⟩ := (H.out.below hBr).at_ hlt
      obtain rfl := Option.some.inj hae
      obtain ⟨j, hj⟩ : ∃ j, k - 1 = j := ⟨_, rfl⟩
      have hkm : (k : Int) - 1 = (j : Int) := by omega
      have hws : IntKind.i64.wrap (j : Int) = (j : Int) := by rw [IntKind.wrap_i64]; omega
      have hjn : j < n := by omega
      have HO := hid ho
      have HNk := hid (HN.out k hk hlt)
      have HOk : Hid (aheadE (elt noEnt es (k - 1)) (elt noEnt es k) = true → ordN es (k + 1)) := by
        intro h3 i h1 h2
        rcases Nat.lt_or_ge i k with h4 | h4
        · exact ho i h1 h4
        · obtain rfl : i = k := by omega
          exact h3
      rw [hj] at hc1 HNk HOk
      obtain ⟨Ak, nk, ck, Av, nv, cv, a0, a1, a2, a3, a4, a5, _, _, _⟩ := hc1
      obtain ⟨Bk, mk, dk, Bv, mv, dv, b0, b1, b2, b3, b4, b5, _, _, _⟩ := hc2
      generalize elt noEnt es j = x at *
      generalize elt noEnt es k = y at *
      have A5 := hid a5
      have B5 := hid b5
      clear ho hae hj a5 b5
      obtain ⟨C, hC⟩ : ∃ C, cmpB (eKey x) (eKey y) = C := ⟨_, rfl⟩
      have HC := hid hC
      have hb := cmpB_bound (eKey x) (eKey y)
      have hz := cmpB_zero (eKey x) (eKey y)
      rw [hC] at hb hz
      have HA : Hid (aheadE x y = true ↔ (C < 0 ∨ (C = 0 ∧ eSeq y < eSeq x))) := by
        unfold Hid
        rw [aheadE, aheadK_iff, hC, hz]
      clear hC hz
      rcases (by omega : C < 0 ∨ C = 0 ∨ 0 < C) with hC0 | hC0 | hC0
      · have hd1 : decide ((0 : Int) < C) = false := decide_eq_false (by omega)
        have hd2 : (C == 0) = false := by rw [beq_eq_false_iff_ne]; omega
        have HF := hid (HOk.out (HA.out.2 (.inl hC0)))
        clear hC0 hb
        go_wp2
        go_quiet (first | (go_at_call 44; refine Calls.quiet_of_same (v := .int .i64 C) ((compare_any Ak nk ck (eKey x) Bk mk dk (eKey y) _ (A5.out.drewN _) (B5.out.drewN _)).mono ?_); rintro r w1 ⟨rfl, rfl⟩; exact ⟨(by rw [HC.out]), rfl⟩))
        go_wp2
        go_quiet (fail)
        go_wp2
        go_roundw
        case rel => exact ⟨k + 1, by omega, by go_num, HF.out, below_drewN hBr _⟩
        case measure => simp [intOf]; omega
      · subst hC0
        by_cases hs : eSeq x ≤ eSeq y
        · have hd1 : decide (eSeq x ≤ eSeq y) = true := decide_eq_true hs
          have HF := hid (HNk.out (by
            cases hq : aheadE x y
            · rfl
            · have := HA.out.1 hq; omega))
          clear hb
          go_wp2
          go_quiet (first | (go_at_call 44; refine Calls.quiet_of_same (v := .int .i64 0) ((compare_any Ak nk ck (eKey x) Bk mk dk (eKey y) _ (A5.out.drewN _) (B5.out.drewN _)).mono ?_); rintro r w1 ⟨rfl, rfl⟩; exact ⟨(by rw [HC.out]), rfl⟩))
          go_wp2
          go_quiet (fail)
          go_wp2
          go_ret
          exact ⟨by rw [HF.out]; rfl, by first | exact below_drewN hBr _ | exact below_drewN (below_drewN hBr _) _⟩
        · have hd1 : decide (eSeq x ≤ eSeq y) = false := decide_eq_false hs
          have HF := hid (HOk.out (HA.out.2 (.inr ⟨rfl, by omega⟩)))
          clear hs hb
          go_wp2
          go_quiet (first | (go_at_call 44; refine Calls.quiet_of_same (v := .int .i64 0) ((compare_any Ak nk ck (eKey x) Bk mk dk (eKey y) _ (A5.out.drewN _) (B5.out.drewN _)).mono ?_); rintro r w1 ⟨rfl, rfl⟩; exact ⟨(by rw [HC.out]), rfl⟩))
          go_wp2
          go_quiet (fail)
          go_wp2
          go_roundw
          case rel => exact ⟨k + 1, by omega, by go_num, HF.out, below_drewN hBr _⟩
          case measure => simp [intOf]; omega
      · have hd1 : decide ((0 : Int) < C) = true := decide_eq_true hC0
        have HF := hid (HNk.out (by
            cases hq : aheadE x y
            · rfl
            · have := HA.out.1 hq; omega))
        clear hb
        go_wp2
        go_quiet (first | (go_at_call 44; refine Calls.quiet_of_same (v := .int .i64 C) ((compare_any Ak nk ck (eKey x) Bk mk dk (eKey y) _ (A5.out.drewN _) (B5.out.drewN _)).mono ?_); rintro r w1 ⟨rfl, rfl⟩; exact ⟨(by rw [HC.out]), rfl⟩))
        go_wp2
        go_quiet (fail)
        go_wp2
        go_ret
        exact ⟨by rw [HF.out]; rfl, by first | exact below_drewN hBr _ | exact below_drewN (below_drewN hBr _) _⟩
    · have HF := hid (HS.out k (by omega) ho)
      go_wp2
      go_ret
      exact ⟨by rw [HF.out]; rfl, hBr⟩
set_option maxHeartbeats 16000000 in
set_option maxRecDepth 100000 in
theorem shared_any (A : Option Addr) (n c : Nat) (xs : List UInt8) (B : Option Addr) (m d : Nat) (ys : List UInt8) (w : World) (h : RB w A n xs) (h' : RB w B m ys) :
    Calls Tryd.prog 50 #[.slice A n c, .slice B m d] w fun e w' => e = .returned (.int .i64 (cmnB xs ys : Nat)) ∧ Below w.heap.size w w' := by
  have hm := h.max
  have hl := h.1
  have hl' := h'.1
  have HI : Hid (∀ k, k ≤ n → k ≤ m → (∀ j, j < k → bAt xs j = bAt ys j) → (k = n ∨ k = m ∨ bAt xs k ≠ bAt ys k) → cmnB xs ys = k) := by
    intro k h1 h2 h3 h4
    exact cmnB_is xs ys k (by omega) (by omega) h3 (by rw [hl, hl']; exact h4)
  have H := hid h
  have H' := hid h'
  clear h h' hl hl'
  go_enter Tryd.func50, Tryd.ntmps50
  go_wp2
  go_loopw [5] (fun i wr => ∃ k : Nat, k ≤ n ∧ k ≤ m ∧ i = .int .i64 k ∧ (∀ j, j < k → bAt xs j = bAt ys j) ∧ Below w.heap.size w wr) (fun i wr => n - (intOf i).toNat)
  case atStart => exact ⟨0, Nat.zero_le _, Nat.zero_le _, rfl, fun j hj => absurd hj (by omega), Below.refl _ _⟩
  case round =>
    obtain ⟨k, hkn, hkm, rfl, hall, hB⟩ := hrel
    have HA := hid hall
    clear hall
    rcases Nat.lt_or_ge k n with h1 | h1
    · have hd1 : decide ((k : Int) < (n : Int)) = true := decide_eq_true (by omega)
      rcases Nat.lt_or_ge k m with h2 | h2
      · have hd2 : decide ((k : Int) < (m : Int)) = true := decide_eq_true (by omega)
        obtain ⟨ad, rfl, p0⟩ := H.out.at_ h1
        obtain ⟨be, rfl, q0⟩ := H'.out.at_ h2
        have p0 := below_cell hB p0
        have q0 := below_cell hB q0
        by_cases he : bAt xs k = bAt ys k
        · have HA2 : Hid (∀ j, j < k + 1 → bAt xs j = bAt ys j) := by
            intro j hj
            rcases Nat.lt_succ_iff_lt_or_eq.1 hj with h3 | h3
            · exact HA.out j h3
            · rw [h3]; exact he
          rw [he] at p0
          clear he
          go_wp2
          go_quiet (fail)
          go_wp2
          go_roundw
          case rel => exact ⟨k + 1, by omega, by omega, by go_num, HA2.out, below_drewN hB _⟩
          case measure => simp [intOf]; omega
        · have hd3 : ((bAt xs k : Int) == (bAt ys k : Int)) = false := by rw [beq_eq_false_iff_ne]; omega
          have HR := hid (HI.out k hkn hkm HA.out (.inr (.inr he)))
          clear he
          go_wp2
          go_quiet (fail)
          go_wp2
          go_ret
          exact ⟨by rw [HR.out]; rfl, below_drewN hB _⟩
      · obtain rfl : m = k := by omega
        have hd2 : ¬ ((m : Int) < (m : Int)) := by omega
        have HR := hid (HI.out m hkn hkm HA.out (.inr (.inl rfl)))
        go_wp2
        go_quiet (fail)
        go_wp2
        go_ret
        exact ⟨by rw [HR.out]; rfl, below_drewN hB _⟩
    · obtain rfl : n = k := by omega
      have HR := hid (HI.out n hkn hkm HA.out (.inl rfl))
      go_wp2
      go_quiet (fail)
      go_wp2
      go_ret
      exact ⟨by rw [HR.out]; rfl, below_drewN hB _⟩
end Go.Proofs.YtkkclkknpjapcaaDoor
/-! ### OI -/
namespace Go.Proofs.YtkkclkknpjapcaaDoor
open Go.RowKit
set_option linter.unusedVariables false
set_option linter.unusedSimpArgs false

theorem intinfo : (Tryd.prog.info? 3).map (fun i => (i.zero, i.size, i.bytes)) = some (some (.int .i64 0), 1, 8) := by kernel_rfl
def ints (zs : List Int) : List Value := zs.map fun z => .int .i64 z
theorem ints_length (zs : List Int) : (ints zs).length = zs.length := by simp [ints]
theorem ints_append (a b : List Int) : ints (a ++ b) = ints a ++ ints b := by simp [ints]
theorem ints_one (zs : List Int) : ∀ u ∈ ints zs, u.oneCell' = true := by
  intro u hu
  simp only [ints, List.mem_map] at hu
  obtain ⟨z, _, rfl⟩ := hu
  rfl
theorem ints_get (zs : List Int) (j : Nat) (hj : j < zs.length) : (ints zs)[j]? = some (.int .i64 (elt 0 zs j)) := by
  simp [ints, elt, hj]
def OI (w : World) (base : Nat) (v : Value) (zs : List Int) : Prop := w.ownsRow base 3 1 v zs.length (ints zs)
section
variable {w w' : World} {base : Nat} {v : Value} {zs : List Int}
theorem OI.nil (w : World) (base : Nat) : OI w base (.slice none 0 0) [] := World.ownsRow_nil _ _ _ _
theorem OI.below (h : OI w base v zs) (hb : Below w.heap.size w w') : OI w' base v zs := own_below h hb
theorem OI.mono {base' : Nat} (h : OI w base v zs) (hb : base' ≤ base) : OI w base' v zs := own_mono h hb
theorem OI.base_ (h : OI w base v zs) (k : Nat) (hk : v.ownBlock = some k) : base ≤ k := own_base h k hk
theorem OI.form (h : OI w base v zs) (n : Nat) (hl : zs.length = n) (hn : 0 < n) : ∃ g cap, v = .slice (some ⟨g, 0, none⟩) n cap ∧ base ≤ g ∧ g < w.heap.size ∧ n ≤ cap := by
  subst hl
  obtain ⟨g, cap, e, h1, h2⟩ := World.ownsRow.form h hn
  subst e
  exact ⟨g, cap, rfl, h1, h2, own_cap h⟩
theorem OI.slice (h : OI w base v zs) (n : Nat) (hl : zs.length = n) : ∃ A c, v = .slice A n c ∧ n ≤ c := by
  subst hl
  obtain ⟨A, c, rfl⟩ := own_slice h
  exact ⟨A, c, rfl, own_cap h⟩
theorem OI.cell {g n c : Nat} (h : OI w base (.slice (some ⟨g, 0, none⟩) n c) zs) (hl : zs.length = n) {j : Nat} (hj : j < n) : w.cell? ⟨g, j, none⟩ = some (.int .i64 (elt 0 zs j)) := by
  subst hl
  rw [World.ownsRow.cellAt h j (by omega), ints_get _ _ hj]
end
/-- append of one number. -/
theorem wpI_append1 {ops : Array Oper} {rest : List Oper} {o : Oper} {a : Act} {Q : Exit → Act → World → Prop} (w0 w : World) (base : Nat) (hgd : o.guard = none) (s x : Operand)
    (ho : o.op = .call { callee := .builtin .append, args := #[s, x], argTypes := #[90, 90] })
    (v : Value) (zs : List Int) (hs : a.eval s = v) (hown : OI w base v zs) (z : Int) (c g : Nat) (hg : g = w.heap.size) (hx : a.eval x = .slice (some ⟨g, 0, none⟩) 1 c)
    (hbytes : (zs.length + 1) * 8 ≤ 140737488355328) (hB : Below base w0 w) (hbase : base ≤ w.heap.size)
    (h : ∀ v' w', OI w' base v' (zs ++ [z]) → Below base w0 w' → wpList Tryd.prog ops Q rest (a.put o.dst v') w') : wpList Tryd.prog ops Q (o :: rest) a (w.alloc (.cells #[.int .i64 z] 3)) := by
  subst hg
  have hB1 : Below base w0 (w.alloc (.cells #[.int .i64 z] 3)) := hB.alloc hbase _
  have hr : Reads (w.alloc (.cells #[.int .i64 z] 3)) 1 (some ⟨w.heap.size, 0, none⟩) 1 (ints [z]) := Reads.block (heap_alloc_new w _) rfl
  refine wpList_append_any _ hgd s x _ ho base 3 (.int .i64 0) 1 8 Tryd.underlying90 intinfo rfl (by omega) v zs.length (ints zs) hs (World.ownsRow.alloc hown _) _ 1 c (ints [z]) hx hr (ints_one _) (by simp only [maxLen]; omega) hbytes (by simp; omega) ?_
  intro v' w' h1 h2 h3
  refine h v' w' ?_ (hB1.grown h2 (by simp; omega) (own_base hown))
  show w'.ownsRow _ _ _ _ _ _
  rw [List.length_append, ints_append]
  exact h1
end Go.Proofs.YtkkclkknpjapcaaDoor
/-! ### R2 -/
namespace Go.Proofs.YtkkclkknpjapcaaDoor
open Go.RowKit
set_option linter.unusedVariables false
set_option linter.unusedSimpArgs false

/-- What an operation does to the world, seen from the rows: it changes nothing that was there, or only the row that it uses up. -/
def ChangeB (row0 : Option Nat) (r0 : Nat) (row : Nat → Bool) (par : Nat → Option Nat) (i : Nat) (u : Nat → Value) (w : World) (v : Value) (w' : World) : Prop :=
  match par i with
  | none => Below w.heap.size w w' ∧ (row i = true → ∀ k, v.ownBlock = some k → if i = r0 then some k = row0 else w.heap.size ≤ k)
  | some p => w.grownBy w' (u p).ownBlock ∧ AtRow w.heap.size (u p) v

section
variable {P : Program} {ops : Array Oper} {Q : Exit → Act → World → Prop}

def OpOKB (row0 : Option Nat) (r0 : Nat) (P : Program) (ops : Array Oper) (Q : Exit → Act → World → Prop) (mk : (Nat → Value) → Act) (T : Nat → Value → World → Prop) (row : Nat → Bool) (eat : Nat → Nat) (par : Nat → Option Nat) (w : World) (u0 : Nat → Value) (i : Nat) (o : Oper) : Prop :=
  ∀ (u : Nat → Value) (W : World) (K : Act → World → Prop), w.grownBy W row0 → (i = r0 → Below w.heap.size w W) →
    (∀ j o', ops[j]? = some o' → (∃ e ∈ o'.after, Region.binds .any e = true ∧ e.on = i) → u j = u0 j) →
    (∀ e ∈ o.after, Region.binds .any e = true → ops.size ≤ eat e.on ∨ eat e.on = i → T e.on (u e.on) W) →
    Hid (∀ v W', T i v W' → ChangeB row0 r0 row par i u W v W' → K ((mk u).put o.dst v) W') →
    if Region.wanted o (yielded ops (mk u).tmps) = true then Oper.wp P o (mk u) W K Q else K ((mk u).put o.dst undef) W

structure InvB (row0 : Option Nat) (r0 : Nat) (ops : Array Oper) (T : Nat → Value → World → Prop) (row : Nat → Bool) (eat : Nat → Nat) (w : World) (listed : Array Bool) (u : Nat → Value) (W : World) : Prop where
  below : w.grownBy W row0
  prior : listed.getD r0 false = false → Below w.heap.size w W
  place : ∀ i, row i = true → listed.getD i false = true → listed.getD (eat i) false = false → ∀ k, (u i).ownBlock = some k → some k = row0 ∨ w.heap.size ≤ k
  size : listed.size = ops.size
  facts : ∀ i, listed.getD i false = true → listed.getD (eat i) false = false → T i (u i) W
  apart : ∀ i j, row i = true → row j = true → i ≠ j → listed.getD i false = true → listed.getD j false = true → listed.getD (eat i) false = false → listed.getD (eat j) false = false → (u i).ownBlock = none ∨ (u i).ownBlock ≠ (u j).ownBlock
  newer : listed.getD r0 false = false → ∀ i, row i = true → listed.getD i false = true → listed.getD (eat i) false = false → ∀ k, (u i).ownBlock = some k → w.heap.size ≤ k

theorem InvB.step {B r0 : Nat} {row0 : Option Nat} {T : Nat → Value → World → Prop} {row : Nat → Bool} {eat : Nat → Nat} {par : Nat → Option Nat} {w W W' : World} {listed : Array Bool} {u : Nat → Value} {v : Value} {i : Nat} {o : Oper}
    (hst : statOK ops row eat par = true)
    (hstab : ∀ j v W W' rw, T j v W → W.grownBy W' rw → (row j = true → v.ownBlock = none ∨ v.ownBlock ≠ rw) → T j v W')
    (hbound : ∀ j v W, row j = true → T j v W → ∀ k, v.ownBlock = some k → B ≤ k ∧ k < W.heap.size)
    (hrow0 : ∀ k, row0 = some k → k < w.heap.size) (h : InvB row0 r0 ops T row eat w listed u W) (hi : i ∈ Region.ready .any ops listed) (ho : ops[i]? = some o) (hT : T i v W') (hc : ChangeB row0 r0 row par i u W v W') :
    InvB row0 r0 ops T row eat w (listed.setIfInBounds i true) (upd u i v) W' := by
  obtain ⟨hun, o', ho', hall⟩ := mem_ready.1 hi
  obtain rfl : o = o' := by rw [ho] at ho'; exact Option.some.inj ho'
  obtain ⟨hunf, hlt⟩ := getD_false_of hun
  have hwW : w.heap.size ≤ W.heap.size := h.below.size
  unfold ChangeB at hc
  cases hp : par i with
  | none =>
    rw [hp] at hc
    obtain ⟨hB, hfr⟩ := hc
    have keep : ∀ j, j ≠ i → listed.getD j false = true → listed.getD (eat j) false = false → T j (u j) W' := fun j hj h1 h2 =>
      hstab j (u j) W W' none (h.facts j h1 h2) (below_grown hB none) (fun _ => by cases (u j).ownBlock <;> simp)
    refine ⟨grown_below h.below hB, fun hr => below_then (h.prior (getD_set_back hr)) hB, fun j hj h1 h2 k hk => ?_, by simpa using h.size, fun j h1 h2 => ?_, fun j k hj hk hne h1 h2 h3 h4 => ?_, fun hr j hj h1 h2 k hk => ?_⟩
    · by_cases hji : j = i
      · subst hji
        rw [upd_same] at hk
        have q2 := hfr hj k hk
        by_cases hjr : j = r0
        · rw [if_pos hjr] at q2; exact .inl q2
        · rw [if_neg hjr] at q2; exact .inr (by omega)
      · rw [upd_ne u v hji] at hk
        rw [getD_set_ne false (Ne.symm hji)] at h1
        exact h.place j hj h1 (getD_set_back h2) k hk
    · by_cases hji : j = i
      · subst hji; rw [upd_same]; exact hT
      · rw [upd_ne u v hji]
        rw [getD_set_ne false (Ne.symm hji)] at h1
        exact keep j hji h1 (getD_set_back h2)
    · by_cases hji : j = i
      · subst hji
        rw [upd_same, upd_ne u v (Ne.symm hne)]
        rw [getD_set_ne false hne] at h2
        have bk := hbound k (u k) W hk (h.facts k h2 (getD_set_back h4))
        cases hv : v.ownBlock with
        | none => exact .inl rfl
        | some q =>
          refine .inr fun he => ?_
          have q1 := (bk q he.symm).2
          have q2 := hfr hj q hv
          by_cases hjr : j = r0
          · rw [if_pos hjr] at q2
            have q3 := hrow0 q q2.symm
            have := h.newer (by rw [← hjr]; exact hunf) k hk h2 (getD_set_back h4) q he.symm
            omega
          · rw [if_neg hjr] at q2
            omega
      · rw [upd_ne u v hji]
        rw [getD_set_ne false (Ne.symm hji)] at h1
        by_cases hki : k = i
        · subst hki
          rw [upd_same]
          have bj := hbound j (u j) W hj (h.facts j h1 (getD_set_back h3))
          cases hv : (u j).ownBlock with
          | none => exact .inl rfl
          | some q =>
            refine .inr fun he => ?_
            have q1 := (bj q hv).2
            have q2 := hfr hk q he.symm
            by_cases hkr : k = r0
            · rw [if_pos hkr] at q2
              have q3 := hrow0 q q2.symm
              have := h.newer (by rw [← hkr]; exact hunf) j hj h1 (getD_set_back h3) q hv
              omega
            · rw [if_neg hkr] at q2
              omega
        · rw [upd_ne u v hki]
          rw [getD_set_ne false (Ne.symm hki)] at h2
          exact h.apart j k hj hk hne h1 h2 (getD_set_back h3) (getD_set_back h4)
    · have hir : i ≠ r0 := fun e => by rw [← e, getD_set_self hlt] at hr; cases hr
      by_cases hji : j = i
      · subst hji
        rw [upd_same] at hk
        have := hfr hj k hk
        rw [if_neg hir] at this
        omega
      · rw [upd_ne u v hji] at hk
        rw [getD_set_ne false (Ne.symm hji)] at h1
        exact h.newer (getD_set_back hr) j hj h1 (getD_set_back h2) k hk
  | some p =>
    rw [hp] at hc
    obtain ⟨hg, hat⟩ := hc
    obtain ⟨he, hrp, hri, e, hein, hbin, heon⟩ := statOK_par hst ho hp
    have hpl : listed.getD p false = true := by rw [← heon]; exact hall e hein hbin
    have hpe : listed.getD (eat p) false = false := by rw [he]; exact hunf
    have hTp := h.facts p hpl hpe
    have hbp := hbound p (u p) W hrp hTp
    have notp : ∀ j, (listed.setIfInBounds i true).getD (eat j) false = false → j ≠ p := fun j hj hjp => by
      rw [hjp, he, getD_set_self hlt] at hj; cases hj
    have keep : ∀ j, j ≠ i → j ≠ p → listed.getD j false = true → listed.getD (eat j) false = false → T j (u j) W' := fun j hj hjp h1 h2 =>
      hstab j (u j) W W' _ (h.facts j h1 h2) hg (fun hr => h.apart j p hr hrp hjp h1 hpl h2 hpe)
    refine ⟨⟨hg.os.trans h.below.os, hg.tape.trans h.below.tape, hg.output.trans h.below.output, Nat.le_trans h.below.size hg.size, fun b hb hne => (hg.block b (Nat.lt_of_lt_of_le hb h.below.size) (fun e => by
      rcases h.place p hrp hpl hpe b e.symm with hx | hx
      · exact hne hx
      · omega)).trans (h.below.block b hb hne)⟩, fun hr => (h.prior (getD_set_back hr)).grown hg h.below.size (fun k hk => h.newer (getD_set_back hr) p hrp hpl hpe k hk), fun j hj h1 h2 k hk => ?_, by simpa using h.size, fun j h1 h2 => ?_, fun j k hj hk hne h1 h2 h3 h4 => ?_, fun hr j hj h1 h2 k hk => ?_⟩
    · by_cases hji : j = i
      · subst hji
        rw [upd_same] at hk
        rcases hat with hat | ⟨q, hq, hge⟩
        · rw [hat] at hk
          exact h.place p hrp hpl hpe k hk
        · rw [hq] at hk
          have := Option.some.inj hk
          exact .inr (by omega)
      · rw [upd_ne u v hji] at hk
        rw [getD_set_ne false (Ne.symm hji)] at h1
        exact h.place j hj h1 (getD_set_back h2) k hk
    · by_cases hji : j = i
      · subst hji; rw [upd_same]; exact hT
      · rw [upd_ne u v hji]
        rw [getD_set_ne false (Ne.symm hji)] at h1
        exact keep j hji (notp j h2) h1 (getD_set_back h2)
    · by_cases hji : j = i
      · subst hji
        rw [upd_same, upd_ne u v (Ne.symm hne)]
        rw [getD_set_ne false hne] at h2
        have bk := hbound k (u k) W hk (h.facts k h2 (getD_set_back h4))
        rcases hat with hat | ⟨q, hq, hge⟩
        · rw [hat]
          exact h.apart p k hrp hk (Ne.symm (notp k h4)) hpl h2 hpe (getD_set_back h4)
        · refine .inr fun hx => ?_
          have := (bk q (hx.symm.trans hq)).2
          omega
      · rw [upd_ne u v hji]
        rw [getD_set_ne false (Ne.symm hji)] at h1
        by_cases hki : k = i
        · subst hki
          rw [upd_same]
          have bj := hbound j (u j) W hj (h.facts j h1 (getD_set_back h3))
          rcases hat with hat | ⟨q, hq, hge⟩
          · rw [hat]
            exact h.apart j p hj hrp (notp j h3) h1 hpl (getD_set_back h3) hpe
          · cases hv : (u j).ownBlock with
            | none => exact .inl rfl
            | some r =>
              refine .inr fun hx => ?_
              rw [hq] at hx
              have := (bj r hv).2
              have := Option.some.inj hx
              omega
        · rw [upd_ne u v hki]
          rw [getD_set_ne false (Ne.symm hki)] at h2
          exact h.apart j k hj hk hne h1 h2 (getD_set_back h3) (getD_set_back h4)
    · by_cases hji : j = i
      · subst hji
        rw [upd_same] at hk
        rcases hat with hat | ⟨q, hq, hge⟩
        · rw [hat] at hk
          exact h.newer (getD_set_back hr) p hrp hpl hpe k hk
        · rw [hq] at hk
          have := Option.some.inj hk
          omega
      · rw [upd_ne u v hji] at hk
        rw [getD_set_ne false (Ne.symm hji)] at h1
        exact h.newer (getD_set_back hr) j hj h1 (getD_set_back h2) k hk

theorem was_of {u u0 : Nat → Value} {i : Nat} (h : ∀ j o', ops[j]? = some o' → (∃ e ∈ o'.after, Region.binds .any e = true ∧ e.on = i) → u j = u0 j) (j : Nat) (hj : ((ops[j]?).any fun o' => o'.after.any fun e => Region.binds .any e && e.on == i) = true) : u j = u0 j := by
  cases ho : ops[j]? with
  | none => rw [ho] at hj; cases hj
  | some o' =>
    rw [ho] at hj
    have hj : (o'.after.any fun e => Region.binds .any e && e.on == i) = true := hj
    obtain ⟨e, he, hb⟩ := Array.any_eq_true'.1 hj
    simp only [Bool.and_eq_true, beq_iff_eq] at hb
    exact h j o' ho ⟨e, he, hb.1, hb.2⟩
theorem inv_anyB {B r0 : Nat} {row0 : Option Nat} {T : Nat → Value → World → Prop} {row : Nat → Bool} {eat : Nat → Nat} {par : Nat → Option Nat} {w : World} {mk : (Nat → Value) → Act} {u0 : Nat → Value}
    (hst : statOK ops row eat par = true)
    (hstab : ∀ j v W W' rw, T j v W → W.grownBy W' rw → (row j = true → v.ownBlock = none ∨ v.ownBlock ≠ rw) → T j v W')
    (hbound : ∀ j v W, row j = true → T j v W → ∀ k, v.ownBlock = some k → B ≤ k ∧ k < W.heap.size)
    (hput : ∀ i o, ops[i]? = some o → PutOK mk i o)
    (hrow0 : ∀ k, row0 = some k → k < w.heap.size)
    (hops : ∀ i o, ops[i]? = some o → OpOKB row0 r0 P ops Q mk T row eat par w u0 i o)
    (hend : ∀ u W, w.grownBy W row0 → (∀ i, i < ops.size → ops.size ≤ eat i → T i (u i) W) → Q .normal (mk u) W) :
    ∀ (fuel : Nat) (listed : Array Bool) (u : Nat → Value) (W : World), InvB row0 r0 ops T row eat w listed u W → (∀ j, listed.getD j false = false → u j = u0 j) → (∀ j o', ops[j]? = some o' → listed.getD j false = true → ∀ e ∈ o'.after, Region.binds .any e = true → listed.getD e.on false = true) → listed.toList.count false ≤ fuel → wpAny P .any ops Q fuel listed (mk u) W := by
  have fin : ∀ (listed : Array Bool) (u : Nat → Value) (W : World), InvB row0 r0 ops T row eat w listed u W → Region.ready .any ops listed = [] → Q .normal (mk u) W := fun listed u W h hr =>
    hend u W h.below fun i hi he => h.facts i (all_listed hst h.size hr i hi) (by have := h.size; simp [show ¬ eat i < listed.size by omega])
  intro fuel
  induction fuel with
  | zero =>
    intro listed u W h hs hdp hc
    have hr : Region.ready .any ops listed = [] := by
      refine List.eq_nil_iff_forall_not_mem.2 fun i hi => ?_
      obtain ⟨h0, _⟩ := mem_ready.1 hi
      obtain ⟨h1, hlt⟩ := getD_false_of h0
      have : false ∈ listed.toList := by
        simp [hlt] at h1
        rw [← h1]
        simp
      have := List.count_pos_iff.2 this
      omega
    exact ⟨hr, fin listed u W h hr⟩
  | succ fuel ih =>
    intro listed u W h hs hdp hc
    refine ⟨fin listed u W h, fun i hi => ?_⟩
    obtain ⟨hun, o, ho, hall⟩ := mem_ready.1 hi
    obtain ⟨hunf, hlt⟩ := getD_false_of hun
    refine wpOp_step ho fun K' hK => hops i o ho u W K' h.below (fun hir => h.prior (by rw [← hir]; exact hunf)) (fun j o' ho' ⟨e, he, hb, hei⟩ => hs j (by
      cases hj : listed.getD j false with
      | false => rfl
      | true => have := hdp j o' ho' hj e he hb; rw [hei, hunf] at this; cases this)) (fun e he hb hor => h.facts e.on (hall e he hb) ?_) fun v W' hT hc' => hK _ _ ?_
    · rcases hor with hor | hor
      · have := h.size
        simp [show ¬ eat e.on < listed.size by omega]
      · rw [hor]; exact hunf
    · rw [hput i o ho u v]
      refine ih _ _ _ (h.step hst hstab hbound hrow0 hi ho hT hc') (fun j hj => ?_) (fun j o' ho' hj e he hb => ?_) ?_
      · have hji : j ≠ i := fun e => by rw [e, getD_set_self hlt] at hj; cases hj
        rw [upd_ne u v hji]; exact hs j (getD_set_back hj)
      · have hold : listed.getD e.on false = true := by
          by_cases hji : j = i
          · subst hji
            obtain rfl : o = o' := by rw [ho] at ho'; exact Option.some.inj ho'
            exact hall e he hb
          · rw [getD_set_ne false (Ne.symm hji)] at hj
            exact hdp j o' ho' hj e he hb
        by_cases hei : e.on = i
        · rw [hei]; exact getD_set_self hlt
        · rw [getD_set_ne false (Ne.symm hei)]; exact hold
      have : (listed.setIfInBounds i true).toList.count false = listed.toList.count false - 1 := by
        rw [Array.toList_setIfInBounds, List.count_set (by simpa using hlt)]
        simp [hlt] at hunf
        simp [hunf]
      omega

theorem wp_region_invB {B r0 : Nat} {row0 : Option Nat} {id : Nat} {a : Act} {w : World} (mk : (Nat → Value) → Act) (u0 : Nat → Value) (T : Nat → Value → World → Prop) (row : Nat → Bool) (eat : Nat → Nat) (par : Nat → Option Nat) (L : List Oper)
    (hm : P.follows .mixedOrders = true) (ha : a = mk u0) (hL : ops.toList = L)
    (hst : statOK ops row eat par = true)
    (hstab : ∀ j v W W' rw, T j v W → W.grownBy W' rw → (row j = true → v.ownBlock = none ∨ v.ownBlock ≠ rw) → T j v W')
    (hbound : ∀ j v W, row j = true → T j v W → ∀ k, v.ownBlock = some k → B ≤ k ∧ k < W.heap.size)
    (hput : OpsOK (PutOK mk) 0 L)
    (hrow0 : ∀ k, row0 = some k → k < w.heap.size)
    (hops : OpsOK (OpOKB row0 r0 P ops Q mk T row eat par w u0) 0 L)
    (hend : ∀ u W, w.grownBy W row0 → (∀ i, i < ops.size → ops.size ≤ eat i → T i (u i) W) → Q .normal (mk u) W) :
    (Code.region id ops true).wp P Q a w := by
  subst ha hL
  have get : ∀ {F : Nat → Oper → Prop}, OpsOK F 0 ops.toList → ∀ i o, ops[i]? = some o → F i o := fun h i o ho => by
    have := h.get (i := i) (o := o) (by simpa using ho)
    rwa [Nat.zero_add] at this
  refine wp_region_any hm (inv_anyB hst hstab hbound (get hput) hrow0 (get hops) hend ops.size _ u0 _ ?_ (fun _ _ => rfl) (fun i _ _ h => by exfalso; simp [Array.getElem?_replicate] at h; split at h <;> cases h) (by simp))
  refine ⟨?_, fun _ => (Below.refl _ w).drew, fun i _ h => ?_, by simp, fun i h => ?_, fun i j _ _ _ h => ?_, fun _ i _ h => ?_⟩
  · exact below_grown (Below.refl _ w).drew _
  · exfalso; simp [Array.getElem?_replicate] at h; split at h <;> cases h
  · exfalso; simp [Array.getElem?_replicate] at h; split at h <;> cases h
  · exfalso; simp [Array.getElem?_replicate] at h; split at h <;> cases h
  · exfalso; simp [Array.getElem?_replicate] at h; split at h <;> cases h
end
end Go.Proofs.YtkkclkknpjapcaaDoor
