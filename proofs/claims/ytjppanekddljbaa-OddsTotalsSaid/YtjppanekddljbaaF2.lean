/- Shares of weights, plain: what odds.Shares reckons, float by float. -/
import Derived.Test.YtjppanekddljbaaF1
namespace Go.Proofs.Ytjppanekddljbaa.Fl
set_option linter.unusedVariables false
set_option linter.unusedSimpArgs false
open Ieee

def faddT (x y : Nat) : Nat := (double.add x y).getD 0
def fdivT (x y : Nat) : Nat := (double.div x y).getD 0
theorem faddT_ok {x y : Nat} (hx : x ≤ INF) (hy : y ≤ INF) : double.add x y = some (faddT x y) ∧ faddT x y ≤ INF := by
  obtain ⟨r, h, hr⟩ := add_pos hx hy
  simp [faddT, h, hr]
theorem fdivT_one {y : Nat} (hy : y ≤ INF) : double.div ONE y = some (fdivT ONE y) ∧ fdivT ONE y ≤ INF := by
  obtain ⟨r, h, hr⟩ := div_one hy
  simp [fdivT, h, hr]
theorem fdivT_fin {x y : Nat} (hx : x < INF) (hy : y ≤ INF) (h0 : y ≠ 0) : double.div x y = some (fdivT x y) ∧ fdivT x y ≤ INF := by
  obtain ⟨r, h, hr⟩ := div_fin hx hy h0
  simp [fdivT, h, hr]

/-- whole numbers as floats -/
def natF (n : Nat) : Nat := double.nearest false n 0
def stepB (n : Nat) : Bool := decide (double.add (natF n) ONE = some (natF (n + 1)) ∧ natF (n + 1) ≤ INF ∧ natF (n + 1) ≠ 0)
def stepsB : Nat → Nat → Bool
  | 0, lo => stepB lo
  | k + 1, lo => stepsB k lo && stepsB k (lo + 2 ^ k)
theorem steps_at : ∀ k lo, stepsB k lo = true → ∀ n, lo ≤ n → n < lo + 2 ^ k → stepB n = true
  | 0, lo, h, n, h1, h2 => by
    rw [show n = lo from by omega]; exact h
  | k + 1, lo, h, n, h1, h2 => by
    simp only [stepsB, Bool.and_eq_true] at h
    rw [Nat.pow_succ] at h2
    rcases Nat.lt_or_ge n (lo + 2 ^ k) with h3 | h3
    · exact steps_at k lo h.1 n h1 h3
    · exact steps_at k (lo + 2 ^ k) h.2 n h3 (by omega)
theorem steps_all : stepsB 12 0 = true := by decide +kernel
theorem natF_step {n : Nat} (h : n < 4096) : double.add (natF n) ONE = some (natF (n + 1)) ∧ natF (n + 1) ≤ INF ∧ natF (n + 1) ≠ 0 := by
  have := steps_at 12 0 steps_all n (Nat.zero_le _) (by omega)
  unfold stepB at this
  exact of_decide_eq_true this
theorem natF_zero : natF 0 = 0 := by decide
theorem natF_pos {n : Nat} (h0 : 0 < n) (h : n ≤ 4096) : natF n ≤ INF ∧ natF n ≠ 0 := by
  obtain ⟨m, rfl⟩ : ∃ m, n = m + 1 := ⟨n - 1, by omega⟩
  exact (natF_step (by omega)).2
theorem natF_le {n : Nat} (h : n ≤ 4096) : natF n ≤ INF := by
  rcases Nat.eq_zero_or_pos n with rfl | h0
  · decide
  · exact (natF_pos h0 h).1

/-- the weights' sum, and how many are infinite -/
def sumW (w : Nat → Nat) : Nat → Nat
  | 0 => 0
  | n + 1 => faddT (sumW w n) (w n)
def cntW (w : Nat → Nat) : Nat → Nat
  | 0 => 0
  | n + 1 => if w n = INF then cntW w n + 1 else cntW w n
theorem sumW_le {w : Nat → Nat} (hw : ∀ i, w i ≤ INF) : ∀ n, sumW w n ≤ INF
  | 0 => Nat.zero_le _
  | n + 1 => (faddT_ok (sumW_le hw n) (hw n)).2
theorem cntW_le (w : Nat → Nat) : ∀ n, cntW w n ≤ n
  | 0 => Nat.le_refl _
  | n + 1 => by
    have := cntW_le w n
    unfold cntW
    split <;> omega
theorem cntW_pos {w : Nat → Nat} {i : Nat} (h : w i = INF) : ∀ n, i < n → 0 < cntW w n
  | 0, hn => by omega
  | n + 1, hn => by
    unfold cntW
    rcases Nat.lt_or_ge i n with h1 | h1
    · have := cntW_pos h n h1
      split <;> omega
    · rw [show n = i from by omega, if_pos h]; omega

/-- a position's share -/
def shareW (w : Nat → Nat) (of i : Nat) : Nat :=
  if 0 < cntW w of then (if w i = INF then fdivT ONE (natF (cntW w of)) else 0)
  else if sumW w of = 0 then fdivT ONE (natF of) else fdivT (w i) (sumW w of)
end Go.Proofs.Ytjppanekddljbaa.Fl
