/- Rounding to nearest, ties to even, plain. -/
import Derived.Test.YtjppanekddljbaaF1
namespace Go.Proofs.Ytjppanekddljbaa.Fl
set_option linter.unusedVariables false
set_option linter.unusedSimpArgs false
open Ieee

/-- n / 2 ^ d, to the nearest whole number, ties to even -/
def rhe (n d : Nat) : Nat := n / 2 ^ d + (decide (2 ^ d < 2 * (n % 2 ^ d)) || (decide (2 ^ d = 2 * (n % 2 ^ d)) && decide (n / 2 ^ d % 2 = 1))).toNat
theorem rhe_zero (n : Nat) : rhe n 0 = n := by
  unfold rhe
  rw [Nat.pow_zero, Nat.mod_one, Nat.div_one]
  simp
theorem rhe_small {n d : Nat} (h : 2 * n < 2 ^ d) : rhe n d = 0 := by
  unfold rhe
  rw [Nat.div_eq_of_lt (by omega), Nat.mod_eq_of_lt (by omega)]
  rw [decide_eq_false (by omega), decide_eq_false (by omega)]
  rfl
theorem rhe_le (n d : Nat) : rhe n d ≤ n / 2 ^ d + 1 := by
  unfold rhe
  have : ∀ b : Bool, b.toNat ≤ 1 := fun b => by cases b <;> decide
  have := this (decide (2 ^ d < 2 * (n % 2 ^ d)) || (decide (2 ^ d = 2 * (n % 2 ^ d)) && decide (n / 2 ^ d % 2 = 1)))
  omega
theorem rhe_ge (n d : Nat) : n / 2 ^ d ≤ rhe n d := by unfold rhe; omega
theorem rhe_shift (n d k : Nat) : rhe (n * 2 ^ k) (d + k) = rhe n d := by
  unfold rhe
  have hk : 0 < 2 ^ k := Nat.two_pow_pos k
  rw [Nat.pow_add, Nat.mul_div_mul_right _ _ hk, Nat.mul_mod_mul_right]
  have e : 2 * (n % 2 ^ d * 2 ^ k) = 2 * (n % 2 ^ d) * 2 ^ k := by rw [Nat.mul_assoc]
  rw [e]
  congr 3
  · exact decide_eq_decide.2 (Nat.mul_lt_mul_right hk)
  · congr 1
    exact decide_eq_decide.2 ⟨fun h => Nat.eq_of_mul_eq_mul_right hk h, fun h => congrArg (· * 2 ^ k) h⟩
theorem cut_eq (neg : Bool) (n d : Nat) : Toward.even.cut neg n d = rhe n d := by
  have key : ∀ g, Toward.even.cut neg n g = (n / (1 <<< min g (n.log2 + 2))) + (decide (1 <<< min g (n.log2 + 2) < 2 * (n % (1 <<< min g (n.log2 + 2)))) || (1 <<< min g (n.log2 + 2) == 2 * (n % (1 <<< min g (n.log2 + 2))) && (n / (1 <<< min g (n.log2 + 2)) % 2 == 1))).toNat := fun g => rfl
  rw [key]
  rcases Nat.le_total d (n.log2 + 2) with h | h
  · rw [Nat.min_eq_left h, Nat.one_shiftLeft]
    unfold rhe
    rfl
  · rw [Nat.min_eq_right h, Nat.one_shiftLeft]
    have hl : n < 2 ^ (n.log2 + 1) := Nat.lt_log2_self
    have h2 : 2 ^ (n.log2 + 2) ≤ 2 ^ d := Nat.pow_le_pow_right (by decide) h
    have h3 : 2 ^ (n.log2 + 2) = 2 * 2 ^ (n.log2 + 1) := by rw [Nat.pow_succ, Nat.mul_comm]
    rw [rhe_small (n := n) (d := d) (by omega)]
    rw [Nat.div_eq_of_lt (by omega), Nat.mod_eq_of_lt (by omega)]
    rw [decide_eq_false (by omega)]
    have : (2 ^ (n.log2 + 2) == 2 * n) = false := by rw [beq_eq_false_iff_ne]; omega
    rw [this]
    rfl

/-- what is kept of mag / 2 ^ D -/
def keptOf (mag : Nat) (D : Int) : Nat := rhe (mag * 2 ^ (-D).toNat) D.toNat
theorem rhe_mul (a m : Nat) : rhe (a * 2 ^ m) m = a := by
  have := rhe_shift a 0 m
  rwa [Nat.zero_add, rhe_zero] at this
theorem kept_shift (mag k : Nat) (D : Int) : keptOf (mag * 2 ^ k) (D + k) = keptOf mag D := by
  unfold keptOf
  rcases Int.le_total 0 D with h | h
  · rw [show (-(D + k)).toNat = 0 by omega, show (-D).toNat = 0 by omega, Nat.pow_zero, Nat.mul_one, Nat.mul_one, show (D + k).toNat = D.toNat + k by omega]
    exact rhe_shift _ _ _
  · rw [show D.toNat = 0 by omega, rhe_zero]
    rcases Int.le_total 0 (D + k) with h2 | h2
    · rw [show (-(D + k)).toNat = 0 by omega, Nat.pow_zero, Nat.mul_one]
      have : mag * 2 ^ k = mag * 2 ^ (-D).toNat * 2 ^ (D + k).toNat := by
        rw [Nat.mul_assoc, ← Nat.pow_add]; congr 2; omega
      rw [this, rhe_mul]
    · rw [show (D + k).toNat = 0 by omega, rhe_zero, Nat.mul_assoc, ← Nat.pow_add]
      congr 2; omega

/-- the rung of mag * 2 ^ place -/
def lastOf (mag : Nat) (place : Int) : Int := max (place + mag.log2 - 52) (-1074)
def rn (mag : Nat) (place : Int) : Nat := if mag = 0 then 0 else min ((lastOf mag place + 1074).toNat * 4503599627370496 + keptOf mag (lastOf mag place - place)) 9218868437227405312
theorem nearest_eq (neg : Bool) (mag : Nat) (place : Int) : double.nearest neg mag place = if neg then 9223372036854775808 + rn mag place else rn mag place := by
  unfold Format.nearest rn
  simp only [Format.word, dsw, dinf, dbin, dleast, dfrac, cut_eq]
  by_cases h : mag = 0
  · rw [if_pos h, if_pos h]
  · rw [if_neg h, if_neg h]
    have e1 : (max (place + (mag.log2 : Int) - ((52 : Nat) : Int)) (-1074)) = lastOf mag place := rfl
    rw [e1]
    have e2 : (lastOf mag place - -1074).toNat = (lastOf mag place + 1074).toNat := by congr 1
    rw [e2, Nat.shiftLeft_eq]
    have e3 : (-(lastOf mag place - place)).toNat = (place - lastOf mag place).toNat := by congr 1; omega
    unfold keptOf
    rw [e3]
theorem log2_mul {mag : Nat} (h : mag ≠ 0) (k : Nat) : (mag * 2 ^ k).log2 = mag.log2 + k := by
  have hne : mag * 2 ^ k ≠ 0 := Nat.mul_ne_zero h (Nat.ne_of_gt (Nat.two_pow_pos _))
  rw [Nat.log2_eq_iff hne]
  have h1 := Nat.log2_self_le h
  have h2 := Nat.lt_log2_self (n := mag)
  rw [Nat.pow_add, show mag.log2 + k + 1 = (mag.log2 + 1) + k by omega, Nat.pow_add]
  exact ⟨Nat.mul_le_mul_right _ h1, Nat.mul_lt_mul_of_pos_right h2 (Nat.two_pow_pos _)⟩
theorem rn_shift (mag k : Nat) (place : Int) : rn (mag * 2 ^ k) place = rn mag (place + k) := by
  unfold rn
  by_cases h : mag = 0
  · subst h; simp
  · have hne : mag * 2 ^ k ≠ 0 := Nat.mul_ne_zero h (Nat.ne_of_gt (Nat.two_pow_pos _))
    rw [if_neg hne, if_neg h]
    have e : lastOf (mag * 2 ^ k) place = lastOf mag (place + k) := by
      unfold lastOf
      rw [log2_mul h]
      congr 1
      omega
    rw [e]
    have e2 : lastOf mag (place + k) - place = (lastOf mag (place + k) - (place + k)) + k := by omega
    rw [e2, kept_shift]

/-- what is left over only has to be told from nothing -/
def sticky (n s : Nat) : Nat := 2 * (n / 2 ^ s) + (n % 2 ^ s != 0).toNat
theorem rhe_sticky (n s e : Nat) (he : 1 ≤ e) : rhe (sticky n s) (e + 1) = rhe n (s + e) := by
  unfold rhe sticky
  have hs : 0 < 2 ^ s := Nat.two_pow_pos s
  obtain ⟨h, hh⟩ : ∃ h, 2 ^ e = 2 * h := ⟨2 ^ (e - 1), by rw [Nat.mul_comm, ← Nat.pow_succ]; congr 1; omega⟩
  have hhp : 0 < h := by have := Nat.two_pow_pos e; omega
  obtain ⟨q, hq⟩ : ∃ q, n / 2 ^ s = q := ⟨_, rfl⟩
  obtain ⟨r, hr⟩ : ∃ r, n % 2 ^ s = r := ⟨_, rfl⟩
  have hrl : r < 2 ^ s := by rw [← hr]; exact Nat.mod_lt _ hs
  have d1 : n / 2 ^ (s + e) = q / 2 ^ e := by rw [Nat.pow_add, ← Nat.div_div_eq_div_mul, hq]
  have m1 : n % 2 ^ (s + e) = (q % 2 ^ e) * 2 ^ s + r := by
    rw [Nat.pow_add, Nat.mod_mul, hq, hr, Nat.mul_comm]; omega
  rw [d1, m1, hq, hr]
  obtain ⟨b, hb⟩ : ∃ b, (r != 0).toNat = b := ⟨_, rfl⟩
  have hb2 : b = 0 ∧ r = 0 ∨ b = 1 ∧ 0 < r := by
    by_cases h0 : r = 0
    · subst h0; left; exact ⟨hb.symm, rfl⟩
    · right
      have : (r != 0) = true := by simpa using h0
      rw [this] at hb
      exact ⟨hb.symm, by omega⟩
  rw [hb]
  have d2 : (2 * q + b) / 2 ^ (e + 1) = q / 2 ^ e := by
    rw [Nat.pow_succ, Nat.mul_comm (2 ^ e), ← Nat.div_div_eq_div_mul]
    congr 1
    omega
  have m2 : (2 * q + b) % 2 ^ (e + 1) = 2 * (q % 2 ^ e) + b := by
    rw [Nat.pow_succ, Nat.mul_comm (2 ^ e), Nat.mod_mul]
    have a1 : (2 * q + b) % 2 = b := by omega
    have a2 : (2 * q + b) / 2 = q := by omega
    rw [a1, a2]; omega
  rw [d2, m2, Nat.pow_succ, hh]
  obtain ⟨Q, hQ⟩ : ∃ Q, q % (2 * h) = Q := ⟨_, rfl⟩
  have hP : 2 ^ (s + e) = 2 ^ s * (2 * h) := by rw [Nat.pow_add, hh]
  rw [hQ, hP]
  obtain ⟨P, hPP⟩ : ∃ P, 2 ^ s = P := ⟨_, rfl⟩
  rw [hPP] at hrl hs ⊢
  have e1 : 2 * (Q * P + r) = P * (2 * Q) + 2 * r := by rw [Nat.mul_add, Nat.mul_comm Q P, Nat.mul_left_comm]
  rw [e1]
  congr 3
  · -- strictly more than half
    refine decide_eq_decide.2 ?_
    rcases Nat.lt_trichotomy Q h with hlt | heq | hgt
    · constructor
      · intro hc; omega
      · intro hc
        have : P * (2 * Q) + P * 2 ≤ P * (2 * h) := by rw [← Nat.mul_add]; exact Nat.mul_le_mul_left _ (by omega)
        omega
    · subst heq; omega
    · constructor
      · intro _
        have : P * (2 * h) + P * 2 ≤ P * (2 * Q) := by rw [← Nat.mul_add]; exact Nat.mul_le_mul_left _ (by omega)
        omega
      · intro _; omega
  · congr 1
    refine decide_eq_decide.2 ?_
    rcases Nat.lt_trichotomy Q h with hlt | heq | hgt
    · have : P * (2 * Q) + P * 2 ≤ P * (2 * h) := by rw [← Nat.mul_add]; exact Nat.mul_le_mul_left _ (by omega)
      omega
    · subst heq; omega
    · have : P * (2 * h) + P * 2 ≤ P * (2 * Q) := by rw [← Nat.mul_add]; exact Nat.mul_le_mul_left _ (by omega)
      omega
theorem log2_div {n s : Nat} (h : n / 2 ^ s ≠ 0) : n.log2 = (n / 2 ^ s).log2 + s := by
  have hs : 0 < 2 ^ s := Nat.two_pow_pos s
  have hn : n ≠ 0 := fun h0 => by rw [h0, Nat.zero_div] at h; exact h rfl
  rw [Nat.log2_eq_iff hn]
  have h1 := Nat.log2_self_le h
  have h2 := Nat.lt_log2_self (n := n / 2 ^ s)
  rw [Nat.pow_add, show (n / 2 ^ s).log2 + s + 1 = ((n / 2 ^ s).log2 + 1) + s by omega, Nat.pow_add]
  exact ⟨(Nat.le_div_iff_mul_le hs).1 h1, (Nat.div_lt_iff_lt_mul hs).1 h2⟩
theorem log2_twice {q b : Nat} (h : q ≠ 0) (hb : b ≤ 1) : (2 * q + b).log2 = q.log2 + 1 := by
  rw [Nat.log2_eq_iff (by omega)]
  have h1 := Nat.log2_self_le h
  have h2 := Nat.lt_log2_self (n := q)
  rw [Nat.pow_succ, Nat.pow_succ 2 (q.log2 + 1)]
  omega
theorem rn_sticky {n s : Nat} (place : Int) (h : 2 ^ 54 ≤ n / 2 ^ s) : rn (sticky n s) (place + s - 1) = rn n place := by
  have hq : n / 2 ^ s ≠ 0 := fun h0 => by rw [h0] at h; simp at h
  have hb : (n % 2 ^ s != 0).toNat ≤ 1 := by cases (n % 2 ^ s != 0) <;> decide
  have hl := log2_div hq
  have hn : n ≠ 0 := fun h0 => by rw [h0, Nat.zero_div] at hq; exact hq rfl
  have hst : (sticky n s).log2 = (n / 2 ^ s).log2 + 1 := log2_twice hq hb
  have hs0 : sticky n s ≠ 0 := by unfold sticky; omega
  have h54 : 54 ≤ (n / 2 ^ s).log2 := (Nat.le_log2 hq).2 h
  unfold rn
  rw [if_neg hs0, if_neg hn]
  have e : lastOf (sticky n s) (place + s - 1) = lastOf n place := by
    unfold lastOf
    rw [hst, hl]
    congr 1
    omega
  rw [e]
  have hD : (n / 2 ^ s).log2 + s - 52 ≤ lastOf n place - place := by
    unfold lastOf
    rw [hl]
    omega
  unfold keptOf
  rw [show (-(lastOf n place - (place + s - 1))).toNat = 0 by omega, show (-(lastOf n place - place)).toNat = 0 by omega, Nat.pow_zero, Nat.mul_one, Nat.mul_one]
  have e2 := rhe_sticky n s ((lastOf n place - place).toNat - s) (by omega)
  rw [show s + ((lastOf n place - place).toNat - s) = (lastOf n place - place).toNat by omega] at e2
  rw [← e2]
  congr 3
  omega
end Go.Proofs.Ytjppanekddljbaa.Fl
