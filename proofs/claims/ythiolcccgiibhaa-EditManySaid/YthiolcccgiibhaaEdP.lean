/- Layer 14: an edit's bytes, in plain terms. -/
import Derived.Test.YthiolcccgiibhaaEdO
import Derived.Test.YthiolcccgiibhaaVintQ
namespace Go.Proofs.Ythiolcccgiibhaa
open Go.RowKit
set_option linter.unusedVariables false
set_option linter.unusedSimpArgs false

def pick4 (a b c d : Int) (k : Nat) : Int := elt 0 [a, b, c, d] k
theorem run_index4 (a b c d : Int) {k : Nat} (hk : k < 4) (w : World) : (Instr.index 41 (.agg #[.int .i64 a, .int .i64 b, .int .i64 c, .int .i64 d]) (.int .i64 (k : Int))).run Try.prog w = .ok (.int .i64 (pick4 a b c d k)) w := by
  have hu := run_underlying Try.underlying41 w
  have hu2 := run_underlying Try.underlying2 w
  have hp : (#[Value.int .i64 a, .int .i64 b, .int .i64 c, .int .i64 d] : Array Value)[k]? = some (.int .i64 (pick4 a b c d k)) := by
    have hkk : k = 0 ∨ k = 1 ∨ k = 2 ∨ k = 3 := by omega
    rcases hkk with rfl | rfl | rfl | rfl <;> rfl
  unfold Instr.index
  simp [Sem.run_bind, asIntOf, hu, hk]
  unfold part
  simp [Sem.run_bind, isAgg, hu2, hp]
theorem addOK_at {ts : List TabR} : ∀ n, addOK ts n = true → ∀ j, j < n → mayT (elt noTab ts j) = true := by
  intro n
  induction n with
  | zero => intro _ j hj; omega
  | succ n ih =>
    intro h j hj
    rw [addOK, Bool.and_eq_true, Bool.and_eq_true] at h
    by_cases e : j = n
    · subst e; exact h.2.1
    · exact ih h.1 j (by omega)
theorem remOK_at {zs : List Int} : ∀ n, remOK zs n = true → ∀ j, j < n → 1 ≤ elt 0 zs j ∧ elt 0 zs j ≤ 1099511627776 := by
  intro n
  induction n with
  | zero => intro _ j hj; omega
  | succ n ih =>
    intro h j hj
    rw [remOK, Bool.and_eq_true, Bool.and_eq_true] at h
    by_cases e : j = n
    · subst e; simpa using h.2.1
    · exact ih h.1 j (by omega)
theorem mayT_true {t : TabR} (h : mayT t = true) : 1 ≤ tNum t ∧ tNum t ≤ 1099511627776 ∧ 0 ≤ tLev t ∧ tLev t < 4 ∧ 1 ≤ tSize t ∧ tSize t ≤ 4194304 ∧ 1 ≤ (tLeast t).length ∧ (tLeast t).length ≤ 512 ∧ 1 ≤ (tMost t).length ∧ (tMost t).length ≤ 512 ∧ cmpB (tLeast t) (tMost t) ≤ 0 := by
  unfold mayT mayTE at h
  exact of_decide_eq_true h
theorem mayEd_true {l x s : Int} {ts : List TabR} {zs : List Int} (h : mayEd l x s ts zs = true) : (0 ≤ l ∧ l ≤ 4611686018427387904) ∧ (0 ≤ x ∧ x ≤ 4611686018427387904) ∧ (0 ≤ s ∧ s ≤ 4611686018427387904) ∧ ts.length ≤ 200 ∧ zs.length ≤ 200 ∧ addOK ts ts.length = true ∧ remOK zs zs.length = true := by
  unfold mayEd headOK at h
  rw [Bool.and_eq_true, Bool.and_eq_true] at h
  have h1 := of_decide_eq_true h.1
  exact ⟨⟨h1.1, h1.2.1⟩, ⟨h1.2.2.1, h1.2.2.2.1⟩, ⟨h1.2.2.2.2.1, h1.2.2.2.2.2.1⟩, h1.2.2.2.2.2.2.1, h1.2.2.2.2.2.2.2, h.2.1, h.2.2⟩
/-- The head's numbers, the first k of them. -/
def accH (l x s n : Int) : Nat → List UInt8
  | 0 => []
  | k + 1 => accH l x s n k ++ uvar (pick4 l x s n k).toNat
/-- A line's numbers, the first k of them, behind L. -/
def acc3 (L : List UInt8) (t : TabR) : Nat → List UInt8
  | 0 => L
  | k + 1 => acc3 L t k ++ uvar (pick3 (tNum t) (tLev t) (tSize t) k).toNat
def tabS (t : TabR) (L : List UInt8) : List UInt8 := ((acc3 L t 3 ++ uvar (tLeast t).length ++ tLeast t) ++ uvar (tMost t).length ++ tMost t)
/-- The head and the first k lines. -/
def accA (l x s : Int) (ts : List TabR) : Nat → List UInt8
  | 0 => accH l x s ts.length 4
  | k + 1 => tabS (elt noTab ts k) (accA l x s ts k)
def accR (L : List UInt8) (zs : List Int) : Nat → List UInt8
  | 0 => L ++ uvar zs.length
  | k + 1 => accR L zs k ++ uvar (elt 0 zs k).toNat
def encE (l x s : Int) (ts : List TabR) (zs : List Int) : List UInt8 := if mayEd l x s ts zs = true then accR (accA l x s ts ts.length) zs zs.length else []
theorem accH_len (l x s n : Int) : ∀ k, (accH l x s n k).length ≤ 10 * k := by
  intro k
  induction k with
  | zero => simp [accH]
  | succ k ih =>
    have := uvar_len (pick4 l x s n k).toNat
    rw [accH, List.length_append]
    omega
theorem acc3_len (L : List UInt8) (t : TabR) : ∀ k, (acc3 L t k).length ≤ L.length + 10 * k := by
  intro k
  induction k with
  | zero => simp [acc3]
  | succ k ih =>
    have := uvar_len (pick3 (tNum t) (tLev t) (tSize t) k).toNat
    rw [acc3, List.length_append]
    omega
theorem tabS_len {t : TabR} (h : mayT t = true) (L : List UInt8) : (tabS t L).length ≤ L.length + 1080 := by
  obtain ⟨_, _, _, _, _, _, _, h1, _, h2, _⟩ := mayT_true h
  have e1 := acc3_len L t 3
  have e2 := uvar_len (tLeast t).length
  have e3 := uvar_len (tMost t).length
  unfold tabS
  simp only [List.length_append]
  omega
theorem accA_len {l x s : Int} {ts : List TabR} (h : ∀ j, j < ts.length → mayT (elt noTab ts j) = true) : ∀ k, k ≤ ts.length → (accA l x s ts k).length ≤ 40 + k * 1080 := by
  intro k
  induction k with
  | zero => intro _; have := accH_len l x s ts.length 4; rw [accA]; omega
  | succ k ih =>
    intro hk
    have := ih (by omega)
    have := tabS_len (h k (by omega)) (accA l x s ts k)
    rw [accA]
    omega
theorem accR_len (L : List UInt8) (zs : List Int) : ∀ k, (accR L zs k).length ≤ L.length + 10 + 10 * k := by
  intro k
  induction k with
  | zero => have := uvar_len zs.length; rw [accR, List.length_append]; omega
  | succ k ih =>
    have := uvar_len (elt 0 zs k).toNat
    rw [accR, List.length_append]
    omega
end Go.Proofs.Ythiolcccgiibhaa
