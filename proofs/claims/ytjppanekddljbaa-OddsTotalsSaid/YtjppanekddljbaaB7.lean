/- The reference's Add is Ieee's; so is its Total. -/
import Derived.Test.YtjppanekddljbaaB6
namespace Go.Proofs.Ytjppanekddljbaa.Lb
set_option linter.unusedVariables false
set_option linter.unusedSimpArgs false
open Go.RowKit Go.Proofs.Ytjppanekddljbaa.Pr Go.Proofs.YtjppanekddljbaaW.PrintWords Go.Proofs.YtjppanekddljbaaW.PrintLast Go.Proofs.YtjppanekddljbaaW.PrintMore
open Go.Proofs.Ytjppanekddljbaa.Fl Ieee

/-! a word's parts -/
def sgB (x : Nat) : Bool := decide (9223372036854775808 ≤ x)
def rung (x : Nat) : Nat := x % 9223372036854775808
theorem word_eq {x : Nat} (hx : x < 18446744073709551616) : x = signedW (sgB x) (rung x) := by
  unfold signedW sgB rung
  by_cases h : 9223372036854775808 ≤ x
  · rw [decide_eq_true h, if_pos rfl]; omega
  · rw [decide_eq_false h, if_neg (by decide)]; omega
theorem sgB_div {x : Nat} (hx : x < 18446744073709551616) : (x / 9223372036854775808 % 2 == 1) = sgB x := by
  unfold sgB
  by_cases h : 9223372036854775808 ≤ x
  · rw [decide_eq_true h, beq_iff_eq]; omega
  · rw [decide_eq_false h, beq_eq_false_iff_ne]; omega
theorem sgB_int (x : Nat) : decide ((x : Int) ≥ 9223372036854775808) = sgB x := by unfold sgB; exact decide_eq_decide.2 (by omega)
theorem valOf_zero {r : Nat} (h : Fl.valOf r = 0) : r = 0 := by
  rcases Nat.eq_zero_or_pos r with h0 | h0
  · exact h0
  · have := Fl.val_lt h0
    omega
/-- what Parts tells of a finite float: its value in units of the least -/
theorem parts_val {x : Nat} (_hx : x < 18446744073709551616) (hfin : rung x < 9218868437227405312) :
    ∃ (m : Nat) (e : Int), m < 9007199254740992 ∧ -1074 ≤ e ∧ e ≤ 1100 ∧ m * 2 ^ (e + 1074).toNat = Fl.valOf (rung x) ∧ Ev (fun k => sibylref03_Parts.f k (x : Int)) (sgB x, (m : Int), e, 0) := by
  by_cases h0 : rung x = 0
  · refine ⟨0, 0, by omega, by omega, by omega, by rw [h0, Nat.zero_mul]; decide, ?_⟩
    have := parts_zero (x := x) h0
    rw [sgB_int] at this
    exact this
  · obtain ⟨m, t, h1, h2, h3⟩ := parts_ev (x := x) hfin h0
    rw [sgB_int] at h3
    have hml := magOf_lt (rung x)
    have hel : expOf (rung x) < 2046 := by unfold expOf; omega
    have hm0 : m ≠ 0 := by omega
    have hp := Nat.two_pow_pos t
    have hmle : m ≤ m * 2 ^ t := Nat.le_mul_of_pos_right _ hp
    have hmag : m * 2 ^ t = magOf (rung x) := h1.symm
    have ht : t ≤ 53 := by
      have h4 : 2 ^ t ≤ m * 2 ^ t := Nat.le_mul_of_pos_left _ (by omega)
      have h5 : 2 ^ t < 2 ^ 54 := by omega
      have := (Nat.pow_lt_pow_iff_right (by decide : 1 < 2)).1 h5
      omega
    refine ⟨m, -1074 + (expOf (rung x) : Nat) + (t : Int), by omega, by omega, by omega, ?_, h3⟩
    rw [show (-1074 + ((expOf (rung x) : Nat) : Int) + (t : Int) + 1074).toNat = t + expOf (rung x) by omega, Nat.pow_add, ← Nat.mul_assoc, hmag]
    rfl
theorem read_word {x : Nat} (hx : x < 18446744073709551616) (hfin : rung x < 9218868437227405312) : double.read x = .number (sgB x) (magOf (rung x)) (-1074 + (expOf (rung x) : Nat)) := by
  rw [read_fin x hfin, sgB_div hx]
  rfl

/-! natural -/
theorem natural_ev {m : Nat} (hm : m < 18446744073709551616) : sibylref21_natural.f (m : Int) = some (U [m % 4294967296, m / 4294967296]) := by
  unfold sibylref21_natural.f
  rw [show Int.tmod (m : Int) 4294967296 % 4294967296 = ((m % 4294967296 : Nat) : Int) from tmodB m, tdivB, wuN (by omega), modB (by omega)]
  rfl
theorem natural_val (m : Nat) : val [m % 4294967296, m / 4294967296] = m := by simp only [val]; omega
theorem natural_lim {m : Nat} (hm : m < 18446744073709551616) : Lim [m % 4294967296, m / 4294967296] := lim_cons.2 ⟨Nat.mod_lt _ (by decide), lim_one (by omega)⟩

/-! sums of finite floats, in Ieee's terms -/
def sgn (p : Bool) (A : Nat) : Int := if p then -(A : Int) else (A : Int)
theorem signed_scale (p : Bool) (M : Nat) (i b : Int) (K e : Nat) (hi : i = -1074 + (e : Int)) (hb : b = -1074 + (K : Int)) (hle : b ≤ i) : signed p M (i - b).toNat * ((2 ^ K : Nat) : Int) = sgn p (M * 2 ^ e) := by
  have h : M * 2 ^ (i - b).toNat * 2 ^ K = M * 2 ^ e := by
    rw [Nat.mul_assoc, ← Nat.pow_add]; congr 2; omega
  unfold signed sgn
  rw [Nat.shiftLeft_eq]
  cases p
  · simp only [Bool.false_eq_true, if_false]
    rw [← Int.natCast_mul, h]
  · simp only [if_true]
    rw [Int.neg_mul, ← Int.natCast_mul, h]
theorem add_fin {x y : Nat} (hx : x < 18446744073709551616) (hy : y < 18446744073709551616) (fx : rung x < 9218868437227405312) (fy : rung y < 9218868437227405312) :
    double.add x y = some (signedW (if sgn (sgB x) (Fl.valOf (rung x)) + sgn (sgB y) (Fl.valOf (rung y)) = 0 then (sgB x && sgB y) else decide (sgn (sgB x) (Fl.valOf (rung x)) + sgn (sgB y) (Fl.valOf (rung y)) < 0))
      (rn (sgn (sgB x) (Fl.valOf (rung x)) + sgn (sgB y) (Fl.valOf (rung y))).natAbs (-1074))) := by
  unfold Format.add
  rw [read_word hx fx, read_word hy fy]
  obtain ⟨i, hi⟩ : ∃ i : Int, -1074 + (expOf (rung x) : Nat) = i := ⟨_, rfl⟩
  obtain ⟨j, hj⟩ : ∃ j : Int, -1074 + (expOf (rung y) : Nat) = j := ⟨_, rfl⟩
  rw [hi, hj]
  simp only [Datum.sum, Option.map_some]
  obtain ⟨b, hb⟩ : ∃ b, min i j = b := ⟨_, rfl⟩
  rw [hb]
  obtain ⟨K, hK⟩ : ∃ K : Nat, b = -1074 + (K : Int) := ⟨(b + 1074).toNat, by omega⟩
  have e1 := signed_scale (sgB x) (magOf (rung x)) i b K (expOf (rung x)) hi.symm hK (by omega)
  have e2 := signed_scale (sgB y) (magOf (rung y)) j b K (expOf (rung y)) hj.symm hK (by omega)
  have e3 : sgn (sgB x) (Fl.valOf (rung x)) = sgn (sgB x) (magOf (rung x) * 2 ^ expOf (rung x)) := rfl
  have e4 : sgn (sgB y) (Fl.valOf (rung y)) = sgn (sgB y) (magOf (rung y) * 2 ^ expOf (rung y)) := rfl
  rw [e3, e4, ← e1, ← e2, ← Int.add_mul]
  obtain ⟨T, hT⟩ : ∃ T, signed (sgB x) (magOf (rung x)) (i - b).toNat + signed (sgB y) (magOf (rung y)) (j - b).toNat = T := ⟨_, rfl⟩
  rw [hT]
  have hp : 0 < ((2 ^ K : Nat) : Int) := by have := Nat.two_pow_pos K; omega
  show some (double.nearest _ _ _) = _
  rw [nearest_eq]
  refine congrArg some ?_
  have c1 : (T * ((2 ^ K : Nat) : Int) = 0) ↔ T = 0 := by rw [Int.mul_eq_zero]; omega
  have c2 : (T * ((2 ^ K : Nat) : Int) < 0) ↔ T < 0 := by
    constructor
    · intro h
      refine Decidable.byContradiction fun hn => ?_
      have := Int.mul_nonneg (a := T) (b := ((2 ^ K : Nat) : Int)) (by omega) (by omega)
      omega
    · intro h; exact Int.mul_neg_of_neg_of_pos h hp
  have c3 : (T * ((2 ^ K : Nat) : Int)).natAbs = T.natAbs * 2 ^ K := by rw [Int.natAbs_mul, Int.natAbs_natCast]
  have c4 : rn (T.natAbs * 2 ^ K) (-1074) = rn T.natAbs b := by rw [rn_shift, hK]
  rw [c3, c4]
  unfold signedW
  by_cases hz : T = 0
  · rw [if_pos hz, if_pos (c1.2 hz)]
  · rw [if_neg hz, if_neg (fun h => hz (c1.1 h)), decide_eq_decide.2 c2]

/-! Add -/
def addC (x y : Nat) : Nat := (double.add x y).getD 9221120237041090561
theorem val_bound {m n c : Nat} (hm : m < 9007199254740992) (hn : 53 + n ≤ 32 * c) : size (m * 2 ^ n) ≤ 53 + n ∧ (norm (m * 2 ^ n)).length ≤ c := by
  have h1 : m * 2 ^ n < 2 ^ (53 + n) := by rw [Nat.pow_add]; exact Nat.mul_lt_mul_of_pos_right hm (Nat.two_pow_pos _)
  refine ⟨size_le_of_lt h1, norm_length_le ?_⟩
  rw [pow32]
  exact Nat.lt_of_lt_of_le h1 (Nat.pow_le_pow_right (by decide) hn)
theorem size_add {u v c : Nat} (hu : size u ≤ c) (hv : size v ≤ c) : size (u + v) ≤ c + 1 := by
  refine size_le_of_lt ?_
  have h1 : u < 2 ^ c := Nat.lt_of_lt_of_le (size_lt u) (Nat.pow_le_pow_right (by decide) hu)
  have h2 : v < 2 ^ c := Nat.lt_of_lt_of_le (size_lt v) (Nat.pow_le_pow_right (by decide) hv)
  rw [Nat.pow_succ]
  omega
theorem size_sub {u v c : Nat} (hu : size u ≤ c) : size (u - v) ≤ c :=
  size_le_of_lt (Nat.lt_of_le_of_lt (Nat.sub_le u v) (Nat.lt_of_lt_of_le (size_lt u) (Nat.pow_le_pow_right (by decide) hu)))
theorem norm_len_size {n c : Nat} (h : size n ≤ 32 * c) : (norm n).length ≤ c := norm_length_le (by
  rw [pow32]
  exact Nat.lt_of_lt_of_le (size_lt n) (Nat.pow_le_pow_right (by decide) h))
theorem sgn_abs (p : Bool) (C : Nat) : (sgn p C).natAbs = C := by unfold sgn; cases p <;> simp
theorem sgn_zero (p : Bool) {C : Nat} : sgn p C = 0 ↔ C = 0 := by unfold sgn; cases p <;> simp
theorem sgn_neg (p : Bool) {C : Nat} (h : 0 < C) : decide (sgn p C < 0) = p := by
  unfold sgn
  cases p
  · simp only [Bool.false_eq_true, if_false]; exact decide_eq_false (by omega)
  · simp only [if_true]; exact decide_eq_true (by omega)
/-- the last step: a difference, or a sum, rounded -/
theorem last_step {W K : Nat} {low : Int} (p : Bool) (hK : low = -1074 + (K : Int)) (hlow : low ≤ 1100) (h0 : W ≠ 0) (hsz : size W ≤ 3200) (hsl : (size W : Int) + low ≤ 1200) (q : Bool) :
    Ev (fun k => (sibylref21_round.f k p (U (norm W)) low false).bind fun t => some t) ((signedW (if sgn p (W * 2 ^ K) = 0 then q else decide (sgn p (W * 2 ^ K) < 0)) (rn (sgn p (W * 2 ^ K)).natAbs (-1074)) : Nat) : Int) := by
  have hpos : 0 < W * 2 ^ K := Nat.mul_pos (by omega) (Nat.two_pow_pos _)
  have hv : val (norm W) = W := val_norm W
  rw [if_neg (fun h => by have := (sgn_zero p).1 h; omega), sgn_neg p hpos, sgn_abs, rn_shift, ← hK]
  have hr := round_exact (neg := p) (e := low) (lim_norm W) (by have := norm_len_size (n := W) (c := 100) (by omega); omega) (by rw [hv]; exact h0) (by rw [hv]; omega) (by omega) (by rw [hv]; omega)
  rw [hv] at hr
  exact Ev.bind hr (Ev.now _)
/-- what is answered of a sum S -/
def ansOf (q : Bool) (S : Int) : Nat := signedW (if S = 0 then q else decide (S < 0)) (rn S.natAbs (-1074))
theorem last_step' {W K : Nat} {low : Int} (p : Bool) (hK : low = -1074 + (K : Int)) (hlow : low ≤ 1100) (h0 : W ≠ 0) (hsz : size W ≤ 3200) (hsl : (size W : Int) + low ≤ 1200) (q : Bool) :
    Ev (fun k => (sibylref21_round.f k p (U (norm W)) low false).bind fun t => some t) ((ansOf q (sgn p (W * 2 ^ K)) : Nat) : Int) := last_step p hK hlow h0 hsz hsl q
theorem same_step {u v K cu : Nat} {low : Int} {x : Nat} (p : Bool) (hK : low = -1074 + (K : Int)) (hlow : low ≤ 1100) (hu : size u ≤ cu) (hv : size v ≤ cu) (hc : cu ≤ 3000) (hcl : (cu : Int) + low ≤ 1199) (hx : u + v = 0 → x = signedW p 0) :
    Ev (fun k => (sibylref01_Plus.f k (U (norm u)) (U (norm v))).bind fun t450 => (if (t450.length : Int) = 0 then (some (x : Int)) else ((sibylref21_round.f k p t450 low false).bind fun t453 => (some t453)))) ((ansOf p (sgn p ((u + v) * 2 ^ K)) : Nat) : Int) := by
  have n1 := norm_len_size (n := u) (c := 100) (by omega)
  have n2 := norm_len_size (n := v) (c := 100) (by omega)
  have hpl := plus_ev (lim_norm u) (lim_norm v) (by omega) (by omega)
  rw [val_norm, val_norm] at hpl
  refine Ev.bind hpl ?_
  have hs1 := size_add hu hv
  by_cases h0 : u + v = 0
  · rw [h0, norm_zero, Nat.zero_mul]
    refine Ev.congr (f := fun _ => some (x : Int)) (fun k => if_pos rfl) ?_
    unfold ansOf
    rw [if_pos ((sgn_zero p).2 rfl), sgn_abs, show rn 0 (-1074) = 0 from if_pos rfl, hx h0]
    exact Ev.now _
  · have hne : (norm (u + v)).length ≠ 0 := fun h => by
      have := val_norm (u + v)
      rw [List.eq_nil_of_length_eq_zero h] at this
      exact h0 this.symm
    refine Ev.congr (fun k => if_neg (by rw [U_length]; omega)) ?_
    exact last_step' p hK hlow h0 (by omega) (by omega) p
theorem opp_step {u v K cu : Nat} {low : Int} (p : Bool) (hK : low = -1074 + (K : Int)) (hlow : low ≤ 1100) (hu : size u ≤ cu) (hv : size v ≤ cu) (hc : cu ≤ 3000) (hcl : (cu : Int) + low ≤ 1199) :
    Ev (fun k => (sibylref01_Cmp.f k (U (norm u)) (U (norm v))).bind fun t441 => (if t441 = 0 then (some 0) else (if t441 > 0 then ((sibylref01_Minus.f k (U (norm u)) (U (norm v))).bind fun t442 => ((sibylref21_round.f k p t442 low false).bind fun t445 => (some t445))) else ((sibylref01_Minus.f k (U (norm v)) (U (norm u))).bind fun t446 => ((sibylref21_round.f k (!p) t446 low false).bind fun t449 => (some t449)))))) ((ansOf false (sgn p (u * 2 ^ K) + sgn (!p) (v * 2 ^ K)) : Nat) : Int) := by
  have n1 := norm_len_size (n := u) (c := 100) (by omega)
  have n2 := norm_len_size (n := v) (c := 100) (by omega)
  have hcmp := cmp_ev (lim_norm u) (lim_norm v) (by omega) (by omega)
  rw [val_norm, val_norm] at hcmp
  refine Ev.bind hcmp ?_
  clear hcmp
  rcases Nat.lt_trichotomy u v with hlt | heq | hgt
  · have hS : sgn p (u * 2 ^ K) + sgn (!p) (v * 2 ^ K) = sgn (!p) ((v - u) * 2 ^ K) := by
      have : u * 2 ^ K ≤ v * 2 ^ K := Nat.mul_le_mul_right _ (Nat.le_of_lt hlt)
      rw [Nat.sub_mul]
      unfold sgn
      cases p
      · simp only [Bool.not_false, Bool.false_eq_true, if_false, if_true]; omega
      · simp only [Bool.not_true, Bool.false_eq_true, if_false, if_true]; omega
    rw [hS, show (if u < v then (-1 : Int) else if u > v then 1 else 0) = -1 from if_pos hlt]
    have hmi := minus_ev (lim_norm v) (lim_norm u) (by omega) (by omega) (by rw [val_norm, val_norm]; exact Nat.le_of_lt hlt)
    rw [val_norm, val_norm] at hmi
    refine Ev.congr (fun k => by rw [if_neg (by decide), if_neg (by decide)]) ?_
    refine Ev.bind hmi ?_
    have hs1 := size_sub (v := u) hv
    exact last_step' (!p) hK hlow (by omega) (by omega) (by omega) false
  · subst heq
    have hS : sgn p (u * 2 ^ K) + sgn (!p) (u * 2 ^ K) = 0 := by
      unfold sgn
      cases p
      · simp only [Bool.not_false, Bool.false_eq_true, if_false, if_true]; omega
      · simp only [Bool.not_true, Bool.false_eq_true, if_false, if_true]; omega
    rw [hS]
    refine Ev.congr (f := fun _ => some 0) (fun k => if_pos (by rw [if_neg (Nat.lt_irrefl _), if_neg (Nat.lt_irrefl _)])) ?_
    exact Ev.now _
  · have hS : sgn p (u * 2 ^ K) + sgn (!p) (v * 2 ^ K) = sgn p ((u - v) * 2 ^ K) := by
      have : v * 2 ^ K ≤ u * 2 ^ K := Nat.mul_le_mul_right _ (Nat.le_of_lt hgt)
      rw [Nat.sub_mul]
      unfold sgn
      cases p
      · simp only [Bool.not_false, Bool.false_eq_true, if_false, if_true]; omega
      · simp only [Bool.not_true, Bool.false_eq_true, if_false, if_true]; omega
    rw [hS, show (if u < v then (-1 : Int) else if u > v then 1 else 0) = 1 from by rw [if_neg (Nat.not_lt.2 (Nat.le_of_lt hgt)), if_pos hgt]]
    have hmi := minus_ev (lim_norm u) (lim_norm v) (by omega) (by omega) (by rw [val_norm, val_norm]; exact Nat.le_of_lt hgt)
    rw [val_norm, val_norm] at hmi
    refine Ev.congr (fun k => by rw [if_neg (by decide), if_pos (by decide)]) ?_
    refine Ev.bind hmi ?_
    have hs1 := size_sub (v := v) hu
    exact last_step' p hK hlow (by omega) (by omega) (by omega) false
theorem natural_ev' {m : Nat} (hm : m < 18446744073709551616) : Ev (fun _ => sibylref21_natural.f (m : Int)) (U [m % 4294967296, m / 4294967296]) := ⟨0, fun _ _ => natural_ev hm⟩
theorem add_j2 {x : Nat} {p q : Bool} {m n : Nat} {e f low : Int} {A B : Nat} (hm : m < 9007199254740992) (hn : n < 9007199254740992) (he0 : -1074 ≤ e) (he1 : e ≤ 1100) (hf0 : -1074 ≤ f) (hf1 : f ≤ 1100) (hlow : min e f = low)
    (hA : m * 2 ^ (e + 1074).toNat = A) (hB : n * 2 ^ (f + 1074).toNat = B) (hx : A = 0 → x = signedW p 0) :
    Ev (fun k => sibylref21_Add.j2 k (x : Int) p (m : Int) e q (n : Int) f low) ((ansOf (p && q) (sgn p A + sgn q B) : Nat) : Int) := by
  obtain ⟨a, ha⟩ : ∃ a : Nat, e - low = (a : Int) := ⟨(e - low).toNat, by omega⟩
  obtain ⟨b, hb⟩ : ∃ b : Nat, f - low = (b : Int) := ⟨(f - low).toNat, by omega⟩
  obtain ⟨K, hK⟩ : ∃ K : Nat, low = -1074 + (K : Int) := ⟨(low + 1074).toNat, by omega⟩
  have hbu := (val_bound (n := a) (c := 96) hm (by omega)).1
  have hbv := (val_bound (n := b) (c := 96) hn (by omega)).1
  have hshu := shl_ev (natural_lim (m := m) (by omega)) (by simp) (n := a) (by omega)
  have hshv := shl_ev (natural_lim (m := n) (by omega)) (by simp) (n := b) (by omega)
  rw [natural_val] at hshu hshv
  obtain ⟨u, hu⟩ : ∃ u, m * 2 ^ a = u := ⟨_, rfl⟩
  obtain ⟨v, hv⟩ : ∃ v, n * 2 ^ b = v := ⟨_, rfl⟩
  have huA : u * 2 ^ K = A := by
    rw [← hu, ← hA, Nat.mul_assoc, ← Nat.pow_add, show a + K = (e + 1074).toNat by omega]
  have hvB : v * 2 ^ K = B := by
    rw [← hv, ← hB, Nat.mul_assoc, ← Nat.pow_add, show b + K = (f + 1074).toNat by omega]
  rw [hu] at hbu hshu
  rw [hv] at hbv hshv
  have hmaxc : (max (53 + a) (53 + b) : Nat) ≤ 3000 := by omega
  have hmaxl : ((max (53 + a) (53 + b) : Nat) : Int) + low ≤ 1199 := by omega
  have hlow1 : low ≤ 1100 := by omega
  have w1 : wrap64 (e - low) = (a : Int) := by rw [w64 (by omega) (by omega), ha]
  have w2 : wrap64 (f - low) = (b : Int) := by rw [w64 (by omega) (by omega), hb]
  have hm2 : m < 18446744073709551616 := by omega
  have hn2 : n < 18446744073709551616 := by omega
  clear hA hB hm hn
  refine Ev.step (f := _) (fun k => by simp only [sibylref21_Add.j2]; rfl) ?_
  rw [w1, w2]
  refine Ev.bind (natural_ev' hm2) (Ev.bind hshu (Ev.bind (natural_ev' hn2) (Ev.bind hshv ?_)))
  clear hshu hshv
  rw [← huA, ← hvB]
  by_cases hpq : p = q
  · subst hpq
    refine Ev.congr (fun k => if_neg (by simp)) ?_
    have hS : sgn p (u * 2 ^ K) + sgn p (v * 2 ^ K) = sgn p ((u + v) * 2 ^ K) := by
      rw [Nat.add_mul]
      unfold sgn; cases p
      · simp only [Bool.false_eq_true, if_false]; omega
      · simp only [if_true]; omega
    rw [hS, Bool.and_self]
    exact same_step p hK hlow1 (Nat.le_trans hbu (Nat.le_max_left _ _)) (Nat.le_trans hbv (Nat.le_max_right _ _)) hmaxc hmaxl (fun h => hx (by rw [← huA, show u = 0 by omega, Nat.zero_mul]))
  · obtain rfl : q = !p := by cases p <;> cases q <;> simp at hpq ⊢
    refine Ev.congr (fun k => if_pos (by cases p <;> simp)) ?_
    rw [show (p && !p) = false by cases p <;> rfl]
    exact opp_step p hK hlow1 (Nat.le_trans hbu (Nat.le_max_left _ _)) (Nat.le_trans hbv (Nat.le_max_right _ _)) hmaxc hmaxl
theorem add_fin_ev {x y : Nat} (hx : x < 18446744073709551616) (hy : y < 18446744073709551616) (fx : rung x < 9218868437227405312) (fy : rung y < 9218868437227405312) :
    Ev (fun k => sibylref21_Add.j1 k (x : Int) (y : Int) false false false) ((addC x y : Nat) : Int) := by
  obtain ⟨m, e, hm, he0, he1, hmv, hme⟩ := parts_val hx fx
  obtain ⟨n, f, hn, hf0, hf1, hnv, hnf⟩ := parts_val hy fy
  have hadd : addC x y = ansOf (sgB x && sgB y) (sgn (sgB x) (Fl.valOf (rung x)) + sgn (sgB y) (Fl.valOf (rung y))) := by
    unfold addC ansOf
    rw [add_fin hx hy fx fy]
    rfl
  rw [hadd]
  have core := add_j2 (x := x) (p := sgB x) (q := sgB y) hm hn he0 he1 hf0 hf1 rfl hmv hnv (fun h => by
    have hr0 := valOf_zero h
    have := word_eq hx
    rw [hr0] at this
    exact this)
  refine Ev.step (f := _) (fun k => by simp only [sibylref21_Add.j1]; rfl) ?_
  refine Ev.congr (fun k => by rw [if_neg (by decide), if_neg (by decide), if_neg (by decide)]) ?_
  refine Ev.bind hme (Ev.bind hnf ?_)
  by_cases hfe : f < e
  · refine Ev.congr (fun k => if_pos hfe) ?_
    rw [show min e f = f by omega] at core
    exact core
  · refine Ev.congr (fun k => if_neg hfe) ?_
    rw [show min e f = e by omega] at core
    exact core
end Go.Proofs.Ytjppanekddljbaa.Lb
