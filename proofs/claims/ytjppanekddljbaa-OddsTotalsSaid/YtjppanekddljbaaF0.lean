/- Floats by their bits: what Ieee's double reads, plain. -/
import Ieee.Arith
namespace Go.Proofs.Ytjppanekddljbaa.Fl
set_option linter.unusedVariables false
set_option linter.unusedSimpArgs false
open Ieee

def INF : Nat := 9218868437227405312
def ONE : Nat := 4607182418800017408
theorem dsw : double.signWeight = 9223372036854775808 := by decide
theorem dbin : double.binade = 4503599627370496 := by decide
theorem dinf : double.infRung = 9218868437227405312 := by decide
theorem dleast : double.leastPlace = -1074 := by decide
theorem dfrac : double.fractionBits = 52 := rfl

theorem read_eq (w : Nat) : double.read w = (if w % 9223372036854775808 < 4503599627370496 then .number (w / 9223372036854775808 % 2 == 1) (w % 9223372036854775808) (-1074)
    else if w % 9223372036854775808 < 9218868437227405312 then .number (w / 9223372036854775808 % 2 == 1) (4503599627370496 + w % 9223372036854775808 % 4503599627370496) (-1074 + (w % 9223372036854775808 / 4503599627370496 - 1 : Nat))
    else if w % 9223372036854775808 = 9218868437227405312 then .infinity (w / 9223372036854775808 % 2 == 1) else .nan (w / 9223372036854775808 % 2 == 1) (w % 9223372036854775808 - 9218868437227405312)) := by
  simp only [Format.read, dsw, dbin, dinf, dleast]

/-- mag and place of a rung, whatever it is -/
def magOf (r : Nat) : Nat := if r < 4503599627370496 then r else 4503599627370496 + r % 4503599627370496
def expOf (r : Nat) : Nat := r / 4503599627370496 - 1
theorem read_fin (w : Nat) (h : w % 9223372036854775808 < 9218868437227405312) :
    double.read w = .number (w / 9223372036854775808 % 2 == 1) (magOf (w % 9223372036854775808)) (-1074 + (expOf (w % 9223372036854775808) : Nat)) := by
  rw [read_eq]
  by_cases h1 : w % 9223372036854775808 < 4503599627370496
  · rw [if_pos h1]
    simp only [magOf, expOf, if_pos h1]
    rw [show w % 9223372036854775808 / 4503599627370496 = 0 from Nat.div_eq_of_lt h1]
    simp
  · rw [if_neg h1, if_pos h]
    simp only [magOf, expOf, if_neg h1]
theorem read_inf (w : Nat) (h : w % 9223372036854775808 = 9218868437227405312) : double.read w = .infinity (w / 9223372036854775808 % 2 == 1) := by
  rw [read_eq, if_neg (by omega), if_neg (by omega), if_pos h]
theorem read_nan (w : Nat) (h : 9218868437227405312 < w % 9223372036854775808) : double.read w = .nan (w / 9223372036854775808 % 2 == 1) (w % 9223372036854775808 - 9218868437227405312) := by
  rw [read_eq, if_neg (by omega), if_neg (by omega), if_neg (by omega)]

def isNaN (b : Nat) : Bool := decide (9218868437227405312 < b % 9223372036854775808)

theorem read_not_nan {w : Nat} (h : isNaN w = false) : (∃ s m e, double.read w = .number s m e) ∨ ∃ s, double.read w = .infinity s := by
  unfold isNaN at h
  simp only [decide_eq_false_iff_not] at h
  by_cases h1 : w % 9223372036854775808 < 9218868437227405312
  · exact .inl ⟨_, _, _, read_fin w h1⟩
  · exact .inr ⟨_, read_inf w (by omega)⟩

theorem order_nan_left {x y : Nat} (h : isNaN x = true) : double.order x y = none := by
  unfold isNaN at h
  simp only [decide_eq_true_eq] at h
  unfold Format.order
  rw [read_nan x h]
  rfl
theorem order_self {x : Nat} (h : isNaN x = false) : double.order x x = some .eq := by
  unfold Format.order
  rcases read_not_nan h with ⟨s, m, e, h⟩ | ⟨s, h⟩ <;> rw [h] <;> simp [Datum.order]
theorem add_nan_left {x y : Nat} (h : isNaN x = true) : double.add x y = none := by
  unfold isNaN at h
  simp only [decide_eq_true_eq] at h
  unfold Format.add
  rw [read_nan x h]
  rfl

/-- what a NaN that the machine chooses reads as -/
theorem nan_cut (t : Nat) : isNaN ((t % 2) * 2 ^ 63 + 0x7ff0000000000000 + 1 + (t / 2) % (2 ^ 52 - 1)) = true := by
  unfold isNaN
  simp only [decide_eq_true_eq]
  have h2 : t / 2 % (2 ^ 52 - 1) < 2 ^ 52 - 1 := Nat.mod_lt _ (by decide)
  generalize t / 2 % (2 ^ 52 - 1) = r at h2
  rcases Nat.mod_two_eq_zero_or_one t with h | h <;> rw [h] <;> omega

/-- what is written is never a NaN, if it is a number or an infinity -/
theorem nearest_rung (neg : Bool) (m : Nat) (e : Int) : ∃ r, r ≤ 9218868437227405312 ∧ double.nearest neg m e = (if neg then 9223372036854775808 + r else r) := by
  unfold Format.nearest
  simp only [Format.word, dsw, dinf]
  split
  · exact ⟨0, by omega, rfl⟩
  · exact ⟨_, Nat.min_le_right _ _, rfl⟩
theorem not_nan_word {neg : Bool} {r : Nat} (h : r ≤ 9218868437227405312) : isNaN (if neg then 9223372036854775808 + r else r) = false := by
  unfold isNaN
  simp only [decide_eq_false_iff_not]
  split <;> omega
theorem write_not_nan {d : Datum} (h : d.isNaN = false) : isNaN (double.write d) = false := by
  cases d with
  | number s m e =>
    obtain ⟨r, hr, he⟩ := nearest_rung s m e
    rw [show double.write (.number s m e) = double.nearest s m e from rfl, he]
    exact not_nan_word hr
  | infinity s =>
    rw [show double.write (.infinity s) = double.word s double.infRung from rfl, dinf]
    exact not_nan_word (neg := s) (Nat.le_refl _)
  | nan => simp [Datum.isNaN] at h
theorem sum_not_nan {d e f : Datum} (h : d.sum e = some f) : f.isNaN = false := by
  cases d <;> cases e <;> simp only [Datum.sum] at h <;> first | (cases h; done) | skip
  · obtain rfl := Option.some.inj h; rfl
  · obtain rfl := Option.some.inj h; rfl
  · obtain rfl := Option.some.inj h; rfl
  · split at h
    · obtain rfl := Option.some.inj h; rfl
    · cases h
theorem add_not_nan {x y r : Nat} (h : double.add x y = some r) : isNaN r = false := by
  unfold Format.add at h
  obtain ⟨d, hd, rfl⟩ := Option.map_eq_some_iff.1 h
  exact write_not_nan (sum_not_nan hd)

/-- sums of floats from nought on -/
theorem read_pos {x : Nat} (h : x ≤ INF) : (∃ m e, double.read x = .number false m e) ∨ double.read x = .infinity false := by
  unfold INF at h
  have h0 : x % 9223372036854775808 = x := Nat.mod_eq_of_lt (by omega)
  have h1 : x / 9223372036854775808 = 0 := Nat.div_eq_of_lt (by omega)
  by_cases h2 : x < 9218868437227405312
  · exact .inl ⟨_, _, by rw [read_fin x (by omega), h1]; rfl⟩
  · refine .inr ?_
    rw [read_inf x (by omega), h1]
    rfl
theorem add_pos {x y : Nat} (hx : x ≤ INF) (hy : y ≤ INF) : ∃ r, double.add x y = some r ∧ r ≤ INF := by
  unfold Format.add
  rcases read_pos hx with ⟨m, e, h⟩ | h <;> rcases read_pos hy with ⟨n, f, g⟩ | g <;> rw [h, g]
  · refine ⟨_, rfl, ?_⟩
    show double.nearest _ _ _ ≤ _
    have hneg : (if signed false m (e - min e f).toNat + signed false n (f - min e f).toNat = 0 then (false && false) else decide (signed false m (e - min e f).toNat + signed false n (f - min e f).toNat < 0)) = false := by
      split
      · rfl
      · have a : 0 ≤ signed false m (e - min e f).toNat := by unfold signed; simp only [Bool.false_eq_true, if_false]; exact Int.natCast_nonneg _
        have b : 0 ≤ signed false n (f - min e f).toNat := by unfold signed; simp only [Bool.false_eq_true, if_false]; exact Int.natCast_nonneg _
        simp only [decide_eq_false_iff_not]
        omega
    rw [hneg]
    obtain ⟨r, hr, he⟩ := nearest_rung false (signed false m (e - min e f).toNat + signed false n (f - min e f).toNat).natAbs (min e f)
    rw [he]
    exact hr
  all_goals (refine ⟨_, rfl, ?_⟩; show double.word false double.infRung ≤ _; rw [dinf]; decide)
end Go.Proofs.Ytjppanekddljbaa.Fl
