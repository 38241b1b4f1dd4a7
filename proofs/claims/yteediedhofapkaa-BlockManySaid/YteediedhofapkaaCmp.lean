/- Bytes compared: by bytes.Compare; by the strings they make. -/
import Derived.Test.YteediedhofapkaaB
import Derived.Lib.Bytealg
namespace Go.Proofs.Yteediedhofapkaa
open Go.RowKit
set_option linter.unusedVariables false
set_option linter.unusedSimpArgs false

/-- -1, 0, 1: in the order of bytes. -/
def cmpB (xs ys : List UInt8) : Int := Lib.compareBytes xs ys
theorem cmpB_less : ∀ (xs ys : List UInt8), cmpB xs ys = if Op.bytesLess xs ys = true then -1 else if Op.bytesLess ys xs = true then 1 else 0 := by
  intro xs
  induction xs with
  | nil =>
    intro ys
    cases ys with
    | nil => rfl
    | cons y ys => rfl
  | cons x xs ih =>
    intro ys
    cases ys with
    | nil => rfl
    | cons y ys =>
      have ih := ih ys
      unfold cmpB at ih ⊢
      simp only [Lib.compareBytes, Op.bytesLess]
      by_cases h1 : x < y
      · simp [h1]
      · by_cases h2 : y < x
        · have h3 : ¬ x = y := by intro e; subst e; exact h1 h2
          simp [h1, h2, h3]
        · have h3 : x = y := by
            apply UInt8.toNat_inj.1
            have a : ¬ x.toNat < y.toNat := h1
            have b : ¬ y.toNat < x.toNat := h2
            omega
          subst h3
          simp [h1, ih]
theorem cmpB_zero : ∀ (xs ys : List UInt8), cmpB xs ys = 0 ↔ xs = ys := by
  intro xs
  induction xs with
  | nil =>
    intro ys
    cases ys with
    | nil => simp [cmpB, Lib.compareBytes]
    | cons y ys => simp [cmpB, Lib.compareBytes]
  | cons x xs ih =>
    intro ys
    cases ys with
    | nil => simp [cmpB, Lib.compareBytes]
    | cons y ys =>
      have ih := ih ys
      unfold cmpB at ih ⊢
      simp only [Lib.compareBytes]
      by_cases h1 : x < y
      · have h3 : ¬ x = y := by intro e; subst e; exact absurd (show x.toNat < x.toNat from h1) (Nat.lt_irrefl _)
        simp [h1, h3]
      · by_cases h2 : y < x
        · have h3 : ¬ x = y := by intro e; subst e; exact h1 h2
          simp [h1, h2, h3]
        · have h3 : x = y := by
            apply UInt8.toNat_inj.1
            have a : ¬ x.toNat < y.toNat := h1
            have b : ¬ y.toNat < x.toNat := h2
            omega
          subst h3
          simp [h1, ih]
theorem run_gtr (P : Program) (t : TypeId) (xs ys : List UInt8) (u : World) : (binOp .gtr t (.string (bstr xs)) (.string (bstr ys))).run P u = .ok (.bool (decide (cmpB xs ys = 1))) u := by
  have b1 : (bstr xs).toList = xs := ByteArray.toList_mk xs
  have b2 : (bstr ys).toList = ys := ByteArray.toList_mk ys
  have hz := cmpB_zero xs ys
  have e : binOp .gtr t (.string (bstr xs)) (.string (bstr ys)) = pure (.bool !(Op.bytesLess xs ys || xs == ys)) := by simp [binOp, Op.stringOp, b1, b2]
  rw [e, Sem.run_pure]
  congr 2
  rw [cmpB_less] at hz ⊢
  cases h1 : Op.bytesLess xs ys with
  | true => simp
  | false =>
    rw [h1] at hz
    cases h2 : Op.bytesLess ys xs with
    | true =>
      rw [h2] at hz
      simp at hz
      simp [hz]
    | false =>
      rw [h2] at hz
      simp at hz
      simp [hz]
theorem cmpB_bound (xs ys : List UInt8) : -1 ≤ cmpB xs ys ∧ cmpB xs ys ≤ 1 := by
  rw [cmpB_less]
  split
  · omega
  · split <;> omega
theorem run_loadBytes {P : Program} (w : World) (b : Nat) : ∀ (xs : List UInt8) (o : Nat) (acc : List UInt8), (∀ j, j < xs.length → w.cell? ⟨b, o + j, none⟩ = some (.int .u8 (bAt xs j : Int))) →
    (Extern.Bytes.loadBytes ⟨b, o, none⟩ xs.length (bstr acc)).run P w = .ok (bstr (acc ++ xs)) w := by
  intro xs
  induction xs with
  | nil => intro o acc _; simp [Extern.Bytes.loadBytes]
  | cons x xs ih =>
    intro o acc h
    have h0 := h 0 (by simp)
    rw [Nat.add_zero, bAt_get (by simp)] at h0
    have ih := ih (o + 1) (acc ++ [x]) (fun j hj => by
      have := h (j + 1) (by simp; omega)
      rw [show o + 1 + j = o + (j + 1) by omega, this]
      simp [bAt])
    rw [List.length_cons]
    have hx : ((x.toNat : Int).toNat.toUInt8) = x := by simp
    simp only [Extern.Bytes.loadBytes, Sem.run_bind]
    rw [run_load]
    simp only [h0, Result.andThen, List.getElem_cons_zero]
    rw [add_plain]
    have e : (bstr acc).push x = bstr (acc ++ [x]) := by simp [bstr, ByteArray.push]
    rw [hx, e, ih]
    simp
theorem run_bytesOf {P : Program} {w : World} {A : Option Addr} {n : Nat} {xs : List UInt8} (h : RB w A n xs) (c : Nat) : (Extern.Bytes.bytesOf (.slice A n c)).run P w = .ok (bstr xs) w := by
  have hl := h.1
  rcases Nat.eq_zero_or_pos n with h0 | h0
  · subst h0
    obtain rfl : xs = [] := List.eq_nil_of_length_eq_zero hl
    cases A with
    | none => rfl
    | some a => rfl
  · obtain ⟨b, o, rfl, hc⟩ := h.form h0
    have := run_loadBytes (P := P) w b xs o [] (fun j hj => hc j (by omega))
    rw [hl] at this
    exact this
theorem run_cmp {P : Program} {w : World} {A A' : Option Addr} {n n' : Nat} {xs ys : List UInt8} (h : RB w A n xs) (h' : RB w A' n' ys) (c c' : Nat) :
    (Extern.BytealgCompare.compare #[.slice A n c, .slice A' n' c']).run P w = .ok (.int .i64 (cmpB xs ys)) w := by
  change Sem.run P (do pure (goInt (Extern.BytealgCompare.cmp (← Extern.Bytes.bytesOf (.slice A n c)) (← Extern.Bytes.bytesOf (.slice A' n' c'))))) w = _
  simp only [Sem.run_bind, run_bytesOf h, run_bytesOf h', Sem.run_pure, Result.andThen]
  rw [Lib.cmp_eq]
  rfl
theorem below_drew {w W : World} (h : Below w.heap.size w W) : Below w.heap.size w W.drew := ⟨h.os, h.tape, h.output, h.size, h.block⟩
set_option maxHeartbeats 4000000 in
theorem compare_any (A : Option Addr) (n c : Nat) (xs : List UInt8) (A' : Option Addr) (n' c' : Nat) (ys : List UInt8) (w : World) (h : RB w A n xs) (h' : RB w A' n' ys) :
    Calls Try.prog 33 #[.slice A n c, .slice A' n' c'] w fun e w' => e = .returned (.int .i64 (cmpB xs ys)) ∧ w = w' := by
  have HC := run_callFunc_extern (P := Try.prog) Try.func38 (by kernel_rfl) (by kernel_rfl) (by kernel_rfl) (e := Extern.BytealgCompare.compare) (by kernel_rfl) #[.slice A n c, .slice A' n' c'] w
  rw [run_cmp h h' c c'] at HC
  simp only [Result.andThen] at HC
  have H := hid HC
  clear HC h h'
  go_enter Try.func33, Try.ntmps33
  go_wp2
  rw [H.out]
  rw [Oper.upon_value]
  go_wp2
  go_ret
  exact ⟨rfl, rfl⟩
set_option maxHeartbeats 4000000 in
theorem refcompare_any (A : Option Addr) (n c : Nat) (xs : List UInt8) (A' : Option Addr) (n' c' : Nat) (ys : List UInt8) (w : World) (h : RB w A n xs) (h' : RB w A' n' ys) :
    Calls Try.prog 13 #[.slice A n c, .slice A' n' c'] w fun e w' => e = .returned (.int .i64 (cmpB xs ys)) ∧ Below w.heap.size w w' := by
  have HL := hid (cmpB_less xs ys)
  have e1 := fun (u : World) (hb : Below w.heap.size w u) => (h.below hb).conv c
  have e2 := fun (u : World) (hb : Below w.heap.size w u) => (h'.below hb).conv c'
  have q1 := h.conv c
  have q2 := h'.conv c'
  have q3 := h.drew.conv c
  have q4 := h'.drew.conv c'
  have b1 : (bstr xs).toList = xs := ByteArray.toList_mk xs
  have b2 : (bstr ys).toList = ys := ByteArray.toList_mk ys
  clear h h'
  by_cases h1 : Op.bytesLess xs ys = true
  · have g1 : Op.bytesLess (bstr xs).toList (bstr ys).toList = true := by rw [b1, b2]; exact h1
    have HR : Hid (cmpB xs ys = -1) := by unfold Hid; rw [HL.out, if_pos h1]
    clear HL h1 b1 b2
    go_enter Try.func13, Try.ntmps13
    go_wp2
    go_region
    go_wp2
    go_ret
    exact ⟨by rw [HR.out]; rfl, below_drew (Below.refl _ _)⟩
  · have g1 : Op.bytesLess (bstr xs).toList (bstr ys).toList = false := by rw [b1, b2]; simpa using h1
    by_cases h2 : Op.bytesLess ys xs = true
    · have HR : Hid (cmpB xs ys = 1) := by unfold Hid; rw [HL.out, if_neg h1, if_pos h2]
      have g2 : ∀ u, (binOp .gtr 9 (.string (bstr xs)) (.string (bstr ys))).run Try.prog u = .ok (.bool true) u := fun u => by rw [run_gtr, HR.out]; rfl
      clear HL h1 h2 b1 b2
      go_enter Try.func13, Try.ntmps13
      go_wp2
      go_region
      go_wp2
      go_ret
      exact ⟨by rw [HR.out]; rfl, below_drew (Below.refl _ _)⟩
    · have HR : Hid (cmpB xs ys = 0) := by unfold Hid; rw [HL.out, if_neg h1, if_neg h2]
      have g2 : ∀ u, (binOp .gtr 9 (.string (bstr xs)) (.string (bstr ys))).run Try.prog u = .ok (.bool false) u := fun u => by rw [run_gtr, HR.out]; rfl
      clear HL h1 h2 b1 b2
      go_enter Try.func13, Try.ntmps13
      go_wp2
      go_region
      go_wp2
      go_ret
      exact ⟨by rw [HR.out]; rfl, below_drew (Below.refl _ _)⟩
end Go.Proofs.Yteediedhofapkaa
