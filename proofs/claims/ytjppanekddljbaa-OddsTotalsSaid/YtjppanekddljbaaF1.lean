/- Floats by their bits: their order, from nought on. -/
import Derived.Test.YtjppanekddljbaaF0
namespace Go.Proofs.Ytjppanekddljbaa.Fl
set_option linter.unusedVariables false
set_option linter.unusedSimpArgs false
open Ieee

theorem magOf_lt (r : Nat) : magOf r < 9007199254740992 := by
  unfold magOf
  have := Nat.mod_lt r (show 0 < 4503599627370496 by decide)
  split <;> omega
theorem rung_eq (r : Nat) : r = expOf r * 4503599627370496 + magOf r := by
  unfold expOf magOf
  have h := Nat.div_add_mod r 4503599627370496
  by_cases h1 : r < 4503599627370496
  · rw [if_pos h1, Nat.div_eq_of_lt h1]; omega
  · rw [if_neg h1]
    have : 1 ≤ r / 4503599627370496 := by omega
    obtain ⟨q, hq⟩ : ∃ q, r / 4503599627370496 = q + 1 := ⟨r / 4503599627370496 - 1, by omega⟩
    rw [hq] at h ⊢
    omega
theorem mag_ge {r : Nat} (h : 0 < expOf r) : 4503599627370496 ≤ magOf r := by
  unfold expOf at h
  unfold magOf
  split <;> omega

/-- a rung's value, in units of the least -/
def valOf (r : Nat) : Nat := magOf r * 2 ^ expOf r
theorem pow_lt_of {a b : Nat} (h : a < b) : 2 * 2 ^ a ≤ 2 ^ b := by
  rw [Nat.mul_comm, ← Nat.pow_succ]
  exact Nat.pow_le_pow_right (by decide) h
theorem val_lt {r s : Nat} (h : r < s) : valOf r < valOf s := by
  have e1 := rung_eq r
  have e2 := rung_eq s
  have m1 := magOf_lt r
  have m2 := magOf_lt s
  unfold valOf
  rcases Nat.lt_trichotomy (expOf r) (expOf s) with hl | he | hg
  · have g := mag_ge (r := s) (by omega)
    have p := pow_lt_of hl
    have p0 : 0 < 2 ^ expOf r := Nat.two_pow_pos _
    calc magOf r * 2 ^ expOf r < 9007199254740992 * 2 ^ expOf r := Nat.mul_lt_mul_of_pos_right m1 p0
      _ = 4503599627370496 * (2 * 2 ^ expOf r) := by omega
      _ ≤ 4503599627370496 * 2 ^ expOf s := Nat.mul_le_mul_left _ p
      _ ≤ magOf s * 2 ^ expOf s := Nat.mul_le_mul_right _ g
  · rw [he]
    rw [he] at e1
    exact Nat.mul_lt_mul_of_pos_right (by omega) (Nat.two_pow_pos _)
  · exfalso
    have g := mag_ge (r := r) (by omega)
    have : (expOf s + 1) * 4503599627370496 ≤ expOf r * 4503599627370496 := Nat.mul_le_mul_right _ hg
    omega
theorem val_compare (r s : Nat) : compare (valOf r : Int) (valOf s : Int) = compare r s := by
  rcases Nat.lt_trichotomy r s with h | h | h
  · have := val_lt h
    rw [Nat.compare_eq_lt.2 h]
    exact Int.compare_eq_lt.2 (by omega)
  · subst h
    rw [Nat.compare_eq_eq.2 rfl]
    exact Int.compare_eq_eq.2 rfl
  · have := val_lt h
    rw [Nat.compare_eq_gt.2 h]
    exact Int.compare_eq_gt.2 (by omega)
theorem cmp_scale {a b : Int} {k : Nat} (hk : 0 < k) : compare (a * k) (b * k) = compare a b := by
  have hk' : (0 : Int) < (k : Int) := by omega
  rcases Int.lt_trichotomy a b with h | h | h
  · rw [Int.compare_eq_lt.2 h]; exact Int.compare_eq_lt.2 (Int.mul_lt_mul_of_pos_right h hk')
  · subst h; exact (Int.compare_eq_eq.2 rfl).trans (Int.compare_eq_eq.2 rfl).symm
  · rw [Int.compare_eq_gt.2 h]; exact Int.compare_eq_gt.2 (Int.mul_lt_mul_of_pos_right h hk')

theorem fin_pos {x : Nat} (h : x < INF) : double.read x = .number false (magOf x) (-1074 + (expOf x : Nat)) := by
  unfold INF at h
  have h0 : x % 9223372036854775808 = x := Nat.mod_eq_of_lt (by omega)
  have h1 : x / 9223372036854775808 = 0 := Nat.div_eq_of_lt (by omega)
  rw [read_fin x (by omega), h0, h1]
  rfl
theorem inf_pos : double.read INF = .infinity false := by decide

theorem shl_val (x : Nat) (b : Int) (hb : b ≤ -1074 + (expOf x : Nat)) (hb0 : -1074 ≤ b) :
    signed false (magOf x) (-1074 + (expOf x : Nat) - b).toNat * ((2 ^ (b + 1074).toNat : Nat) : Int) = (valOf x : Int) := by
  unfold signed valOf
  simp only [Bool.false_eq_true, if_false, Nat.shiftLeft_eq]
  rw [← Int.natCast_mul, Nat.mul_assoc, ← Nat.pow_add]
  congr 3
  omega
theorem order_pos {x y : Nat} (hx : x ≤ INF) (hy : y ≤ INF) : double.order x y = some (compare x y) := by
  unfold Format.order
  by_cases h1 : x < INF
  · by_cases h2 : y < INF
    · rw [fin_pos h1, fin_pos h2]
      simp only [Datum.order]
      congr 1
      obtain ⟨b, hbb⟩ : ∃ b : Int, min (-1074 + (expOf x : Nat) : Int) (-1074 + (expOf y : Nat)) = b := ⟨_, rfl⟩
      rw [hbb]
      have e1 := shl_val x b (by omega) (by omega)
      have e2 := shl_val y b (by omega) (by omega)
      rw [← cmp_scale (k := 2 ^ (b + 1074).toNat) (Nat.two_pow_pos _), e1, e2]
      exact val_compare x y
    · obtain rfl : y = INF := by omega
      rw [fin_pos h1, inf_pos]
      simp only [Datum.order]
      rw [Nat.compare_eq_lt.2 h1]; rfl
  · obtain rfl : x = INF := by omega
    by_cases h2 : y < INF
    · rw [fin_pos h2, inf_pos]
      simp only [Datum.order]
      rw [Nat.compare_eq_gt.2 h2]; rfl
    · obtain rfl : y = INF := by omega
      rw [inf_pos]
      simp only [Datum.order]
      rw [Nat.compare_eq_eq.2 rfl]; rfl

/-- a weight's worth -/
def worthF (x : Nat) : Nat := if x ≤ INF then x else 0
theorem gt_zero {x : Nat} (h : x < 18446744073709551616) : (double.order x 0 == some .gt) = decide (0 < x ∧ x ≤ INF) := by
  by_cases h1 : x ≤ INF
  · rw [order_pos h1 (by decide)]
    rcases Nat.eq_zero_or_pos x with h0 | h0
    · subst h0; decide
    · rw [Nat.compare_eq_gt.2 h0]; simp [h0, h1]
  · rw [show decide (0 < x ∧ x ≤ INF) = false from decide_eq_false (fun h => h1 h.2)]
    unfold INF at h1
    by_cases hn : isNaN x = true
    · rw [order_nan_left hn]; rfl
    · replace hn : isNaN x = false := Bool.eq_false_iff.mpr hn
      have hs : (x / 9223372036854775808 % 2 == 1) = true := by
        unfold isNaN at hn
        simp only [decide_eq_false_iff_not] at hn
        rw [beq_iff_eq]
        omega
      unfold isNaN at hn
      simp only [decide_eq_false_iff_not] at hn
      unfold Format.order
      rw [show double.read 0 = .number false 0 (-1074) from by decide]
      by_cases hf : x % 9223372036854775808 < 9218868437227405312
      · rw [read_fin x hf, hs]
        simp only [Datum.order]
        have a : signed true (magOf (x % 9223372036854775808)) (-1074 + (expOf (x % 9223372036854775808) : Nat) - min (-1074 + (expOf (x % 9223372036854775808) : Nat) : Int) (-1074)).toNat ≤ 0 := by
          unfold signed
          simp only [if_true]
          exact Int.neg_nonpos_of_nonneg (Int.natCast_nonneg _)
        have b : signed false 0 ((-1074 : Int) - min (-1074 + (expOf (x % 9223372036854775808) : Nat) : Int) (-1074)).toNat = 0 := by
          unfold signed
          simp
        rw [b]
        rcases Int.lt_or_eq_of_le a with a | a
        · rw [Int.compare_eq_lt.2 a]; rfl
        · rw [a]; decide
      · rw [read_inf x (by omega), hs]
        rfl
theorem worthF_eq {x : Nat} (h : x < 18446744073709551616) : (if (double.order x 0 == some .gt) = true then x else 0) = worthF x := by
  rw [gt_zero h]
  unfold worthF
  by_cases h1 : x ≤ INF
  · rw [if_pos h1]
    rcases Nat.eq_zero_or_pos x with h0 | h0
    · subst h0; simp
    · simp [h0, h1]
  · rw [if_neg h1]; simp [h1]
theorem worthF_le (x : Nat) : worthF x ≤ INF := by unfold worthF; split <;> first | assumption | decide
/-- greater than the greatest float: an infinity -/
theorem gt_max {x : Nat} (h : x ≤ INF) : (double.order x 9218868437227405311 == some .gt) = decide (x = INF) := by
  rw [order_pos h (by decide)]
  by_cases e : x = INF
  · subst e; decide
  · have hl : x < INF := by omega
    unfold INF at hl e
    have : x = 9218868437227405311 ∨ x < 9218868437227405311 := by omega
    rcases this with rfl | h2
    · decide
    · rw [Nat.compare_eq_lt.2 h2]
      simp [INF, e]
theorem eq_zero {x : Nat} (h : x ≤ INF) : (double.order x 0 == some .eq) = decide (x = 0) := by
  rw [order_pos h (by decide)]
  rcases Nat.eq_zero_or_pos x with h0 | h0
  · subst h0; decide
  · rw [Nat.compare_eq_gt.2 h0]; simp; omega

/-- quotients of floats from nought on -/
theorem div_one {y : Nat} (hy : y ≤ INF) : ∃ r, double.div ONE y = some r ∧ r ≤ INF := by
  unfold Format.div
  rw [show double.read ONE = .number false 4503599627370496 (-52) from by decide]
  rcases read_pos hy with ⟨n, f, g⟩ | g <;> rw [g] <;> simp only [Datum.quotient]
  · by_cases hn : n = 0
    · rw [if_pos hn, if_neg (by decide)]
      exact ⟨_, rfl, by decide⟩
    · rw [if_neg hn]
      refine ⟨_, rfl, ?_⟩
      obtain ⟨r, hr, he⟩ := nearest_rung false (2 * (4503599627370496 <<< (double.fractionBits + 2 + n.log2 - Nat.log2 4503599627370496) / n) + (4503599627370496 <<< (double.fractionBits + 2 + n.log2 - Nat.log2 4503599627370496) % n != 0).toNat) (-52 - f - (double.fractionBits + 2 + n.log2 - Nat.log2 4503599627370496 : Nat) - 1)
      show double.nearest _ _ _ ≤ _
      rw [show (false ^^ false) = false from rfl, he]
      exact hr
  · exact ⟨_, rfl, by decide⟩
theorem div_fin {x y : Nat} (hx : x < INF) (hy : y ≤ INF) (h0 : y ≠ 0) : ∃ r, double.div x y = some r ∧ r ≤ INF := by
  unfold Format.div
  rw [fin_pos hx]
  by_cases h1 : y < INF
  · rw [fin_pos h1]
    have hm : magOf y ≠ 0 := by
      intro hz
      have := rung_eq y
      have : expOf y = 0 := by
        rcases Nat.eq_zero_or_pos (expOf y) with h | h
        · exact h
        · have := mag_ge h; omega
      omega
    simp only [Datum.quotient]
    rw [if_neg hm]
    refine ⟨_, rfl, ?_⟩
    show double.nearest _ _ _ ≤ _
    obtain ⟨r, hr, he⟩ := nearest_rung (false ^^ false) (2 * (magOf x <<< (double.fractionBits + 2 + (magOf y).log2 - (magOf x).log2) / magOf y) + (magOf x <<< (double.fractionBits + 2 + (magOf y).log2 - (magOf x).log2) % magOf y != 0).toNat) ((-1074 + (expOf x : Nat)) - (-1074 + (expOf y : Nat)) - (double.fractionBits + 2 + (magOf y).log2 - (magOf x).log2 : Nat) - 1)
    rw [he]
    exact hr
  · obtain rfl : y = INF := by omega
    rw [inf_pos]
    simp only [Datum.quotient]
    exact ⟨_, rfl, by decide⟩
end Go.Proofs.Ytjppanekddljbaa.Fl
