/- Layer 3: the walk of CrcTells. -/
import Derived.Test.YtmkkenhcldcloaaCrcA
import Derived.BigRegion
import Derived.WideKeyArr2
import Derived.Laws.IdiomArrays
import Derived.Handy
import Derived.ChangeKeysEq
import Derived.Deep.RegionHeld3
import Derived.Deep.DeepMust
namespace Go.Proofs.Ytmkkenhcldcloaa
open Go.RowKit Go.WideMaps Go.ChangeShapes Go.WideShapes
set_option linter.unusedVariables false
set_option linter.unusedSimpArgs false

theorem info_u8 : ∃ i, Try.prog.info? 5 = some i := by
  obtain ⟨i, hi, _⟩ := info_parts u8info
  exact ⟨i, hi⟩
theorem cellsOf_u8 : Try.prog.cellsOf 5 = 1 := by kernel_rfl
theorem arr4_eq (x0 x1 x2 x3 : Int) (w : World) : (Op.equalIn 10000 30 (.agg #[.int .u8 x0, .int .u8 x1, .int .u8 x2, .int .u8 x3]) (.agg #[.int .u8 0, .int .u8 0, .int .u8 0, .int .u8 0])).run Try.prog w = .ok (x0 == 0 && x1 == 0 && x2 == 0 && x3 == 0) w := by
  obtain ⟨i, hi⟩ := info_u8
  rw [run_equalIn_array w 9999 _ _ Try.underlying30 hi, cellsOf_u8]
  have pk : Try.prog.plainKey 5 = true := by kernel_rfl
  have hp : ∀ (j : Nat) (xs : Array Value) (v : Value), xs[j]? = some v → (part 5 xs j).run Try.prog w = .ok v w := fun j xs v h => run_part_plain w pk h
  have e := fun a b => run_equalIn_int (P := Try.prog) w 9998 5 .u8 .u8 a b Try.underlying5
  simp only [List.range, List.range.loop, Op.eqItems, Nat.mul_one]
  have a0 := hp 0 #[.int .u8 x0, .int .u8 x1, .int .u8 x2, .int .u8 x3] (.int .u8 x0) rfl
  have z0 := hp 0 #[.int .u8 0, .int .u8 0, .int .u8 0, .int .u8 0] (.int .u8 0) rfl
  have a1 := hp 1 #[.int .u8 x0, .int .u8 x1, .int .u8 x2, .int .u8 x3] (.int .u8 x1) rfl
  have z1 := hp 1 #[.int .u8 0, .int .u8 0, .int .u8 0, .int .u8 0] (.int .u8 0) rfl
  have a2 := hp 2 #[.int .u8 x0, .int .u8 x1, .int .u8 x2, .int .u8 x3] (.int .u8 x2) rfl
  have z2 := hp 2 #[.int .u8 0, .int .u8 0, .int .u8 0, .int .u8 0] (.int .u8 0) rfl
  have a3 := hp 3 #[.int .u8 x0, .int .u8 x1, .int .u8 x2, .int .u8 x3] (.int .u8 x3) rfl
  have z3 := hp 3 #[.int .u8 0, .int .u8 0, .int .u8 0, .int .u8 0] (.int .u8 0) rfl
  simp only [Sem.run_bind, a0, z0, Result.andThen_ok, e]
  cases hx0 : (x0 == 0)
  · simp [Sem.run_pure]
  simp only [Bool.not_true, Bool.false_eq_true, ↓reduceIte]
  simp only [Sem.run_bind, a1, z1, Result.andThen_ok, e]
  cases hx1 : (x1 == 0)
  · simp [Sem.run_pure]
  simp only [Bool.not_true, Bool.false_eq_true, ↓reduceIte]
  simp only [Sem.run_bind, a2, z2, Result.andThen_ok, e]
  cases hx2 : (x2 == 0)
  · simp [Sem.run_pure]
  simp only [Bool.not_true, Bool.false_eq_true, ↓reduceIte]
  simp only [Sem.run_bind, a3, z3, Result.andThen_ok, e]
  cases hx3 : (x3 == 0)
  · simp [Sem.run_pure]
  simp only [Bool.not_true, Bool.false_eq_true, ↓reduceIte]
  simp [Sem.run_pure]

def updB (p : Nat) (X : Nat → UInt8) (xs : List UInt8) : Nat → List UInt8
  | 0 => xs
  | k + 1 => (updB p X xs k).set (p + k) (elt 0 (updB p X xs k) (p + k) ^^^ X k)
def sameB (X : Nat → UInt8) : Nat → Bool
  | 0 => true
  | k + 1 => sameB X k && X k == 0
def midB (p : Nat) (X : Nat → UInt8) (xs : List UInt8) (k : Nat) : List (UInt8 × UInt8) := (List.range k).map fun j => (elt 0 xs (p + j) ^^^ X j, elt 0 xs (p + j))
theorem midB_succ (p : Nat) (X : Nat → UInt8) (xs : List UInt8) (k : Nat) : midB p X xs (k + 1) = midB p X xs k ++ [(elt 0 xs (p + k) ^^^ X k, elt 0 xs (p + k))] := by simp [midB, List.range_succ]
theorem midB_len (p : Nat) (X : Nat → UInt8) (xs : List UInt8) (k : Nat) : (midB p X xs k).length = k := by simp [midB]
theorem drop_elt {xs : List UInt8} {i : Nat} (h : i < xs.length) : xs.drop i = elt 0 xs i :: xs.drop (i + 1) := by rw [elt_get 0 h, List.drop_eq_getElem_cons h]
theorem xs_mid (p : Nat) (X : Nat → UInt8) (xs : List UInt8) : ∀ k, p + k ≤ xs.length → xs = xs.take p ++ (midB p X xs k).map (·.2) ++ xs.drop (p + k) := by
  intro k
  induction k with
  | zero => intro h; simp [midB]
  | succ k ih =>
    intro h
    conv => lhs; rw [ih (by omega), drop_elt (by omega)]
    rw [midB_succ]
    simp [Nat.add_assoc]
theorem updB_mid (p : Nat) (X : Nat → UInt8) (xs : List UInt8) : ∀ k, p + k ≤ xs.length → updB p X xs k = xs.take p ++ (midB p X xs k).map (·.1) ++ xs.drop (p + k) := by
  intro k
  induction k with
  | zero => intro h; simp [updB, midB]
  | succ k ih =>
    intro h
    have hl : (xs.take p ++ (midB p X xs k).map (·.1)).length = p + k := by simp [midB_len]; omega
    show (updB p X xs k).set (p + k) (elt 0 (updB p X xs k) (p + k) ^^^ X k) = _
    rw [ih (by omega), drop_elt (by omega)]
    have he : elt 0 (xs.take p ++ (midB p X xs k).map (·.1) ++ elt 0 xs (p + k) :: xs.drop (p + k + 1)) (p + k) = elt 0 xs (p + k) := by
      rw [elt_get 0 (by rw [List.length_append, hl, List.length_cons]; omega), List.getElem_append_right (by omega)]
      simp [hl]
    rw [he, List.set_append_right _ _ (by omega), hl, Nat.sub_self, midB_succ]
    simp [Nat.add_assoc]
theorem midB_same (p : Nat) (X : Nat → UInt8) (xs : List UInt8) : ∀ k, ((midB p X xs k).map (·.1) = (midB p X xs k).map (·.2)) ↔ sameB X k = true := by
  intro k
  induction k with
  | zero => simp [midB, sameB]
  | succ k ih =>
    rw [midB_succ, List.map_append, List.map_append]
    constructor
    · intro h
      have h2 := List.append_inj h (by simp)
      simp only [sameB, Bool.and_eq_true, beq_iff_eq]
      refine ⟨ih.1 h2.1, ?_⟩
      have h3 : elt 0 xs (p + k) ^^^ X k = elt 0 xs (p + k) := by simpa using h2.2
      have := congrArg (elt 0 xs (p + k) ^^^ ·) h3
      simpa [← UInt8.xor_assoc] using this
    · intro h
      simp only [sameB, Bool.and_eq_true, beq_iff_eq] at h
      rw [ih.2 h.1, h.2]
      simp
theorem tells_sum {p k : Nat} {X : Nat → UInt8} {xs : List UInt8} (hk : k ≤ 4) (h : p + k ≤ xs.length) : crcMore 0 (updB p X xs k) = crcMore 0 xs ↔ sameB X k = true := by
  have key := crc_tells (s := 0) (by omega) (xs.take p) (midB p X xs k) (xs.drop (p + k)) (by rw [midB_len]; exact hk)
  rw [← updB_mid p X xs k h, ← xs_mid p X xs k h] at key
  rw [key, midB_same]
theorem sameB_zero {X : Nat → UInt8} {k : Nat} (h : ∀ j, j < k → X j = 0) : sameB X k = true := by
  induction k with
  | zero => rfl
  | succ k ih => simp [sameB, ih (fun j hj => h j (by omega)), h k (by omega)]

theorem CrcTells_zero (A : Option Addr) (c : Nat) (a : Int) (x0 x1 x2 x3 : Int) (w : World) (h : RB w A 0 []) :
    Calls Try.prog 5 #[.slice A 0 c, .int .i64 a, .agg #[.int .u8 x0, .int .u8 x1, .int .u8 x2, .int .u8 x3]] w fun e w' => e = .returned (.bool true) ∧ Below w.heap.size w w' := by
  go_enter Try.func5, Try.ntmps5
  go_wp2_with (go_at_call 12; refine (awake_any _).mono ?_; rintro e w' ⟨rfl, hb⟩)
  go_ret
  exact ⟨rfl, below_then ((Below.refl _ _).alloc (Nat.le_refl _) _) hb⟩
theorem CrcTells_same (A : Option Addr) (n c : Nat) (a : Int) (x0 x1 x2 x3 : Int) (xs : List UInt8) (w : World) (h : RB w A n xs) (hn : 0 < n) (hz : (x0 == 0 && x1 == 0 && x2 == 0 && x3 == 0) = true) :
    Calls Try.prog 5 #[.slice A n c, .int .i64 a, .agg #[.int .u8 x0, .int .u8 x1, .int .u8 x2, .int .u8 x3]] w fun e w' => e = .returned (.bool true) ∧ Below w.heap.size w w' := by
  have hm := h.max
  have ae := arr4_eq x0 x1 x2 x3
  rw [hz] at ae
  clear hz
  have h0 : ((n : Int) == 0) = false := by simp; omega
  go_enter Try.func5, Try.ntmps5
  go_wp2_with (go_at_call 12; refine (awake_any _).mono ?_; rintro e w' ⟨rfl, hb⟩)
  go_ret
  exact ⟨rfl, below_then ((Below.refl _ _).alloc (Nat.le_refl _) _) hb⟩
theorem blocks_ne {w : World} {g g' : Nat} {cs cs' : Array Value} {t t' : TypeId} {f f' : Nat × Nat} (h : w.heap[g]? = some (.cells cs t f)) (h' : w.heap[g']? = some (.cells cs' t' f')) (hne : t ≠ t') : g ≠ g' := by
  rintro rfl
  rw [h] at h'
  injection h' with h'
  injection h' with _ ht
  exact hne ht
theorem box_cell {w : World} {g : Nat} {X : Nat → UInt8} {t : TypeId} {f : Nat × Nat} (h : w.heap[g]? = some (.cells #[.int .u8 (X 0).toNat, .int .u8 (X 1).toNat, .int .u8 (X 2).toNat, .int .u8 (X 3).toNat] t f)) {k : Nat} (hk : k < 4) : w.cell? ⟨g, k, none⟩ = some (.int .u8 (X k).toNat) := by
  rw [cell_of_row w g k _ t f h]
  match k, hk with
  | 0, _ => rfl
  | 1, _ => rfl
  | 2, _ => rfl
  | 3, _ => rfl
theorem xor_u8 (x y : UInt8) : bits .xor .u8 (x.toNat : Int) (y.toNat : Int) = ((x ^^^ y).toNat : Int) := by
  rw [u8_xor_nat _ _ x.toNat_lt y.toNat_lt, UInt8.toNat_xor]
theorem CrcTells_long (A : Option Addr) (n c : Nat) (a : Int) (X : Nat → UInt8) (xs : List UInt8) (w : World) (h : RB w A n xs) (hc : n ≤ c) (hsz : n ≤ 140737488351232) (hn : 0 < n) (hz : (((X 0).toNat : Int) == 0 && ((X 1).toNat : Int) == 0 && ((X 2).toNat : Int) == 0 && ((X 3).toNat : Int) == 0) = false) (ha : -9223372036854775808 ≤ a ∧ a ≤ 9223372036854775807) :
    Calls Try.prog 5 #[.slice A n c, .int .i64 a, .agg #[.int .u8 (X 0).toNat, .int .u8 (X 1).toNat, .int .u8 (X 2).toNat, .int .u8 (X 3).toNat]] w fun e w' => e = .returned (.bool true) ∧ Below w.heap.size w w' := by
  have hm := h.max
  have ae := arr4_eq (X 0).toNat (X 1).toNat (X 2).toNat (X 3).toNat
  rw [hz] at ae
  clear hz
  have h0 : ((n : Int) == 0) = false := by simp; omega
  have t1 := Int.tmod_lt_of_pos a (show (0 : Int) < n by omega)
  have t2 : -(n : Int) < a.tmod n := by
    have := Int.tmod_lt_of_pos (-a) (show (0 : Int) < n by omega)
    rw [Int.neg_tmod] at this
    omega
  obtain ⟨p, hp, hpn⟩ : ∃ p : Nat, a.tmod n % n = (p : Int) ∧ p < n := by
    have u1 := Int.emod_nonneg (a.tmod n) (b := (n : Int)) (by omega)
    have u2 := Int.emod_lt_of_pos (a.tmod n) (b := (n : Int)) (by omega)
    exact ⟨(a.tmod n % n).toNat, by omega, by omega⟩
  have hl := h.1
  have HL := hid hl
  clear hl
  go_enter Try.func5, Try.ntmps5
  go_wp2_with (first
    | (at_builtin; refine wpB_append w _ w.heap.size rfl (.tmp 29) (.tmp 30) rfl _ [] rfl (OB.empty' _ _ _ (by simp) (by simp)) A n c xs rfl ((h.alloc _).alloc _) (by rw [HL.out]; simp; omega) (((Below.refl _ _).alloc (Nat.le_refl _) _).alloc (by simp) _) (by simp; omega) ?_; intro v1 w1 hown1 hB1 hg1 _))
  obtain ⟨g, cap, hv, hg0, hg2, hcap⟩ := OB.form (xs := xs) hown1 (by rw [HL.out]; exact hn)
  have hv' : v1 = .slice (some ⟨g, 0, none⟩) n cap := by rw [hv, HL.out]
  have hown : OB w1 w.heap.size v1 xs := hown1
  have hbox : w1.heap[w.heap.size]? = some (.cells #[.int .u8 (X 0).toNat, .int .u8 (X 1).toNat, .int .u8 (X 2).toNat, .int .u8 (X 3).toNat] 30 (0, 0)) := by
    rw [hg1.block w.heap.size (by simp; omega) (by intro e; have e2 : some w.heap.size = some (w.heap.size + 1) := e; simp at e2)]
    exact heap_alloc2_old w _ _
  have HP := hid hp
  clear hv hown1 hg1 hp
  subst hv'
  have hcap2 : n ≤ cap := hown.rb.2
  go_loopw [8, 9] (fun s i wr => ∃ k : Nat, k ≤ 4 ∧ p + k ≤ n ∧ i = .int .i64 k ∧ s = .bool (sameB X k) ∧ OB wr w.heap.size (.slice (some ⟨g, 0, none⟩) n cap) (updB p X xs k) ∧ wr.heap[w.heap.size]? = some (.cells #[.int .u8 (X 0).toNat, .int .u8 (X 1).toNat, .int .u8 (X 2).toNat, .int .u8 (X 3).toNat] 30 (0, 0)) ∧ Below w.heap.size w wr) (fun _ i _ => 4 - (intOf i).toNat)
  case atStart => exact ⟨0, by omega, by omega, rfl, rfl, hown, hbox, hB1⟩
  case round =>
    obtain ⟨k, hk, hpk, rfl, rfl, hownk, hboxk, hBk⟩ := hrel
    clear hown hbox hB1
    by_cases hcond : k < 4 ∧ p + k < n
    · obtain ⟨hk4, hpk4⟩ := hcond
      have k0 := hownk.cell (j := p + k) (by omega)
      have f0 := hownk.frozen (p + k)
      have kx := box_cell hboxk hk4
      have hbl := bAt_lt (updB p X xs k) (p + k)
      have ex : bits .xor .u8 ((bAt (updB p X xs k) (p + k) : Nat) : Int) ((X k).toNat : Int) = ((elt 0 (updB p X xs k) (p + k) ^^^ X k).toNat : Int) := xor_u8 _ _
      have HB := hid hownk
      have HX := hid hboxk
      have HB := hid hownk
      have HX := hid hboxk
      have hne : g ≠ w.heap.size := by
        obtain ⟨cur, hcur⟩ := hownk.blk
        exact blocks_ne hcur hboxk (by decide)
      have nx : ((X k).toNat : Int) = 0 ∨ ((X k).toNat : Int) ≠ 0 := by omega
      have hkb : Hid (Value.bool (sameB X k && ((X k).toNat : Int) == 0) = Value.bool (sameB X (k + 1))) := by
        have : (((X k).toNat : Int) == 0) = (X k == 0) := by
          rw [Bool.eq_iff_iff]
          simp only [beq_iff_eq]
          rw [← UInt8.toNat_inj]
          simp
        rw [this]
        rfl
      clear nx hownk hboxk
      have b0 : (0 : Int) ≤ (p : Int) + (k : Int) := by omega
      have b1 : (p : Int) + (k : Int) < (n : Int) := by omega
      have q2 : ((p : Int) + (k : Int)).toNat = p + k := by omega
      go_wp2
      go_region
      have kx2 : ((wr.setCell ⟨g, p + k, none⟩ (.int .u8 ((elt 0 (updB p X xs k) (p + k) ^^^ X k).toNat : Int))).drew).cell? ⟨w.heap.size, k, none⟩ = some (.int .u8 (X k).toNat) := by
        show (wr.setCell _ _).cell? _ = _
        rw [World.cell?_setCell_other _ _ _ _ (by intro e; injection e with e1; exact hne e1)]
        exact kx
      have hwx : OB ((wr.setCell ⟨g, p + k, none⟩ (.int .u8 ((elt 0 (updB p X xs k) (p + k) ^^^ X k).toNat : Int))).drew) w.heap.size (.slice (some ⟨g, 0, none⟩) n cap) (updB p X xs (k + 1)) := (HB.out.set (p + k) (elt 0 (updB p X xs k) (p + k) ^^^ X k) rfl).drew
      have hbx2 : ((wr.setCell ⟨g, p + k, none⟩ (.int .u8 ((elt 0 (updB p X xs k) (p + k) ^^^ X k).toNat : Int))).drew).heap[w.heap.size]? = some (.cells #[.int .u8 (X 0).toNat, .int .u8 (X 1).toNat, .int .u8 (X 2).toNat, .int .u8 (X 3).toNat] 30 (0, 0)) :=
        (Below.heap_setCell wr _ _ _ (fun e => hne e.symm)).trans HX.out
      have HWX := hid hwx
      have HBX2 := hid hbx2
      clear hwx hbx2
      cases hsk : sameB X k
      · go_wp2
        go_roundw
        case rel => exact ⟨k + 1, by omega, by omega, by go_num, by simp [sameB, hsk], HWX.out, HBX2.out, (hBk.setCell hg0 _).drew⟩
        case measure => simp [intOf]; omega
      · go_wp2
        go_roundw
        case rel => exact ⟨k + 1, by omega, by omega, by go_num, by rw [← hkb.out, hsk]; simp, HWX.out, HBX2.out, (hBk.setCell hg0 _).drew⟩
        case measure => simp [intOf]; omega
    · have hfin : Hid (((crcMore 0 (updB p X xs k) : Int) == (crcMore 0 xs : Int)) = sameB X k) := by
        have key := tells_sum (p := p) (k := k) (X := X) (xs := xs) hk (by rw [HL.out]; exact hpk)
        unfold Hid
        rw [Bool.eq_iff_iff, ← key]
        simp only [beq_iff_eq, Int.natCast_inj]
      have e1 : ((crcMore 0 (updB p X xs k) : Int) == (crcMore 0 xs : Int)) = sameB X k := hfin
      have hrc := hownk.rb.1
      by_cases hk4 : k < 4
      · obtain rfl : n = p + k := by omega
        go_wp2_with (first
          | (go_at_call 8; (with_reducible refine (sum_any (some ⟨g, 0, none⟩) _ _ _ _ hrc).mono ?_); rintro e w' ⟨rfl, rfl⟩)
          | (go_at_call 8; (with_reducible refine (sum_any A _ _ _ _ (h.below hBk)).mono ?_); rintro e w' ⟨rfl, rfl⟩)
          | (go_at_call 12; refine (awake_any _).mono ?_; rintro e w' ⟨rfl, hb⟩))
        go_ret
        exact ⟨rfl, below_then hBk hb⟩
      · obtain rfl : k = 4 := by omega
        go_wp2_with (first
          | (go_at_call 8; (with_reducible refine (sum_any (some ⟨g, 0, none⟩) _ _ _ _ hrc).mono ?_); rintro e w' ⟨rfl, rfl⟩)
          | (go_at_call 8; (with_reducible refine (sum_any A _ _ _ _ (h.below hBk)).mono ?_); rintro e w' ⟨rfl, rfl⟩)
          | (go_at_call 12; refine (awake_any _).mono ?_; rintro e w' ⟨rfl, hb⟩))
        go_ret
        exact ⟨rfl, below_then hBk hb⟩

def four (a b c d : UInt8) : Nat → UInt8
  | 0 => a
  | 1 => b
  | 2 => c
  | _ => d
theorem arr4_open {H : Type} {enc : TypeId × Value → H} {W : World} {base b0 : Nat} {spare : Nat → Bool} {held : Bool} {r : Reach} {v : Value} {d : DataW H} {ps : List MemPlace} (hv : Value.okWide Try.prog W r b0 30 v) (h : DataW.Trod enc Try.prog W base spare held 30 v d ps) :
    ∃ X : Nat → UInt8, v = .agg #[.int .u8 (X 0).toNat, .int .u8 (X 1).toNat, .int .u8 (X 2).toNat, .int .u8 (X 3).toNat] := by
  have K : ArrKey Try.prog 30 5 4 := ⟨Try.underlying30, by kernel_rfl, by kernel_rfl, by kernel_rfl⟩
  obtain ⟨xs, rfl, hs⟩ := okWide_arr K hv
  obtain ⟨l⟩ := xs
  match l, hs with
  | [c0, c1, c2, c3], _ =>
    obtain ⟨fuel, hf⟩ := h
    obtain ⟨y0, y1, y2, y3, n, _, h0, h1, h2, h3⟩ := trod_array4 Try.underlying30 cellsOf_u8 (by simpa [Value.cells] using hf)
    obtain ⟨a0, e0, _, w0⟩ := DataW.trod_int Try.underlying5 h0
    obtain ⟨a1, e1, _, w1⟩ := DataW.trod_int Try.underlying5 h1
    obtain ⟨a2, e2, _, w2⟩ := DataW.trod_int Try.underlying5 h2
    obtain ⟨a3, e3, _, w3⟩ := DataW.trod_int Try.underlying5 h3
    simp only [List.cons.injEq, and_true] at e0 e1 e2 e3
    subst e0 e1 e2 e3
    have back : ∀ {z : Int}, (Lit.int .u8 z).wf = true → ((UInt8.ofNat z.toNat).toNat : Int) = z := fun h => UInt8.ofNat_back (wf_u8 h).1 (wf_u8 h).2
    exact ⟨four (UInt8.ofNat a0.toNat) (UInt8.ofNat a1.toNat) (UInt8.ofNat a2.toNat) (UInt8.ofNat a3.toNat), by
      show Value.agg #[.int .u8 a0, .int .u8 a1, .int .u8 a2, .int .u8 a3] = Value.agg #[.int .u8 ((UInt8.ofNat a0.toNat).toNat : Int), .int .u8 ((UInt8.ofNat a1.toNat).toNat : Int), .int .u8 ((UInt8.ofNat a2.toNat).toNat : Int), .int .u8 ((UInt8.ofNat a3.toNat).toNat : Int)]
      rw [back w0, back w1, back w2, back w3]⟩
theorem CrcTells_walk {H : Type} {enc : TypeId × Value → H} {b0 base : Nat} {spare : Nat → Bool} {held : Bool} {r : Reach} {d : DataW H} {ps : List MemPlace} (A : Option Addr) (n c : Nat) (xs : List UInt8) (a : Int) (v : Value) (w : World) (h : RB w A n xs) (hc : n ≤ c) (hsz : n ≤ 140737488351232) (ha : (Lit.int .i64 a).wf = true)
    (hv : Value.okWide Try.prog w r b0 30 v) (ht : DataW.Trod enc Try.prog w base spare held 30 v d ps) :
    Calls Try.prog 5 #[.slice A n c, .int .i64 a, v] w fun e w' => e = .returned (.bool true) ∧ Below w.heap.size w w' := by
  obtain ⟨X, rfl⟩ := arr4_open hv ht
  rcases Nat.eq_zero_or_pos n with h0 | h0
  · subst h0
    obtain rfl : xs = [] := List.eq_nil_of_length_eq_zero h.1
    exact CrcTells_zero A c a _ _ _ _ w h
  · cases hz : (((X 0).toNat : Int) == 0 && ((X 1).toNat : Int) == 0 && ((X 2).toNat : Int) == 0 && ((X 3).toNat : Int) == 0)
    · exact CrcTells_long A n c a X xs w h hc hsz h0 hz (wf_i64 ha)
    · exact CrcTells_same A n c a _ _ _ _ xs w h h0 hz
end Go.Proofs.Ytmkkenhcldcloaa
