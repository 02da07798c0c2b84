/- What the reference's Parts and Join answer, over Ieee's words. -/
import Derived.Test.YtjppanekddljbaaB3
import Derived.Test.YtjppanekddljbaaF3
namespace Go.Proofs.Ytjppanekddljbaa.Lb
set_option linter.unusedVariables false
set_option linter.unusedSimpArgs false
open Go.RowKit Go.Proofs.Ytjppanekddljbaa.Pr Go.Proofs.YtjppanekddljbaaW.PrintWords Go.Proofs.YtjppanekddljbaaW.PrintLast Go.Proofs.YtjppanekddljbaaW.PrintMore
open Go.Proofs.Ytjppanekddljbaa.Fl

/-! Parts -/
theorem tmod2 (n : Nat) : Int.tmod (n : Int) 2 = ((n % 2 : Nat) : Int) := (Int.ofNat_tmod n 2).symm
theorem parts_loop (x : Int) : ∀ (n man : Nat) (e : Int), size man ≤ n → man ≠ 0 → man < 18446744073709551616 → -100000 ≤ e → e + size man ≤ 100000 →
    ∃ m t : Nat, man = m * 2 ^ t ∧ m % 2 = 1 ∧ Ev (fun k => sibylref03_Parts.l0 k x (man : Int) e) (decide (x ≥ 9223372036854775808), (m : Int), e + (t : Int), 0) := by
  intro n
  induction n with
  | zero =>
    intro man e hs h0
    have : size man = 0 := by omega
    unfold size at this
    rw [if_neg h0] at this
    omega
  | succ n ih =>
    intro man e hs h0 hlt he1 he2
    have hsz := size_half h0
    by_cases hodd : man % 2 = 1
    · refine ⟨man, 0, by simp, hodd, ?_⟩
      refine Ev.step (f := fun _ => some (decide (x ≥ 9223372036854775808), (man : Int), e, 0)) (fun k => ?_) ?_
      · simp only [sibylref03_Parts.l0]; rw [tmod2, if_neg (by omega)]
      · rw [show e + ((0 : Nat) : Int) = e by omega]; exact Ev.now _
    · obtain ⟨m, t, h1, h2, h3⟩ := ih (man / 2) (e + 1) (by omega) (by omega) (by omega) (by omega) (by omega)
      refine ⟨m, t + 1, by rw [Nat.pow_succ, ← Nat.mul_assoc, ← h1]; omega, h2, ?_⟩
      refine Ev.step (f := fun k => sibylref03_Parts.l0 k x ((man / 2 : Nat) : Int) (e + 1)) (fun k => ?_) ?_
      · simp only [sibylref03_Parts.l0]
        rw [tmod2, if_pos (by omega), tdiv2, wuN (by omega), w64 (by omega) (by omega)]
      · rw [show e + ((t + 1 : Nat) : Int) = e + 1 + (t : Int) by omega]; exact h3
theorem tmod52 (x : Nat) : Int.tmod (x : Int) 4503599627370496 = ((x % 4503599627370496 : Nat) : Int) := (Int.ofNat_tmod x 4503599627370496).symm
theorem size_le64 {x : Nat} (h : x < 18446744073709551616) : size x ≤ 64 := size_le_of_lt (by simpa using h)
theorem parts_ev {x : Nat} (hfin : x % 9223372036854775808 < 9218868437227405312) (h0 : x % 9223372036854775808 ≠ 0) :
    ∃ m t : Nat, magOf (x % 9223372036854775808) = m * 2 ^ t ∧ m % 2 = 1 ∧
      Ev (fun k => sibylref03_Parts.f k (x : Int)) (decide ((x : Int) ≥ 9223372036854775808), (m : Int), -1074 + (expOf (x % 9223372036854775808) : Nat) + (t : Int), 0) := by
  obtain ⟨r, hr⟩ : ∃ r, x % 9223372036854775808 = r := ⟨_, rfl⟩
  rw [hr] at hfin h0 ⊢
  have hml := magOf_lt r
  have hm0 : magOf r ≠ 0 := by
    intro hz
    have e1 := rung_eq r
    rcases Nat.eq_zero_or_pos (expOf r) with h | h
    · rw [h, hz] at e1; omega
    · have := mag_ge h; omega
  have hel : expOf r < 2046 := by unfold expOf; omega
  have hs := size_le64 (x := magOf r) (by omega)
  obtain ⟨m, t, h1, h2, h3⟩ := parts_loop (x : Int) (size (magOf r)) (magOf r) (-1074 + (expOf r : Nat)) (Nat.le_refl _) hm0 (by omega) (by omega) (by omega)
  refine ⟨m, t, h1, h2, ?_⟩
  refine Ev.congr (f := fun k => sibylref03_Parts.j0 k (x : Int) (magOf r : Int) ((expOf r : Nat) + 1)) (fun k => ?_) ?_
  · unfold sibylref03_Parts.f sibylref03_Size.f
    rw [tmod63, hr]
    simp only [Option.bind_some]
    rw [if_neg (by omega), if_neg (by omega), show ((r : Nat) : Int) / 4503599627370496 = ((r / 4503599627370496 : Nat) : Int) from rfl, w64 (by omega) (by omega), tmod52]
    by_cases hz : r / 4503599627370496 = 0
    · have hl : r < 4503599627370496 := by omega
      rw [if_pos (by omega)]
      simp only [magOf, expOf, if_pos hl, hz, Nat.mod_eq_of_lt hl]
      rfl
    · have hl : ¬ r < 4503599627370496 := by omega
      rw [if_neg (by omega)]
      simp only [magOf, expOf, if_neg hl]
      rw [wu64 (by omega) (by omega)]
      congr 1
      · omega
      · omega
  · refine Ev.step (f := fun k => sibylref03_Parts.l0 k (x : Int) (magOf r : Int) (-1074 + (expOf r : Nat))) (fun k => ?_) h3
    simp only [sibylref03_Parts.j0]
    congr 1
    rw [w64 (by omega) (by omega)]
    omega
theorem parts_zero {x : Nat} (h : x % 9223372036854775808 = 0) : Ev (fun k => sibylref03_Parts.f k (x : Int)) (decide ((x : Int) ≥ 9223372036854775808), 0, 0, 0) := by
  refine Ev.congr (f := fun _ => some (decide ((x : Int) ≥ 9223372036854775808), 0, 0, 0)) (fun k => ?_) (Ev.now _)
  unfold sibylref03_Parts.f sibylref03_Size.f
  rw [tmod63, h]
  simp only [Option.bind_some]
  rw [if_neg (by omega), if_pos (by omega)]

/-! Join -/
theorem wuE (x : Int) : IntKind.u64.wrap x = x % 18446744073709551616 := by simp [IntKind.wrap, IntKind.bits, IntKind.signed]
theorem join_tail {sg : Nat} (hsg : sg ≤ 9223372036854775808) {q : Int} {m : Nat} (hq0 : -1074 ≤ q) (hq1 : q ≤ 10000) (hm : m ≤ 9007199254740992) (hlow : m < 4503599627370496 → q = -1074) :
    Ev (fun k => sibylref03_Join.j4 k (sg : Int) q (m : Int)) ((sg + min ((q + 1074).toNat * 4503599627370496 + m) 9218868437227405312 : Nat) : Int) := by
  by_cases h53 : m = 9007199254740992
  · refine Ev.step2 (f := fun _ => some ((sg + min ((q + 1074).toNat * 4503599627370496 + m) 9218868437227405312 : Nat) : Int)) (fun k => ?_) (Ev.now _)
    simp only [sibylref03_Join.j4]
    rw [if_pos (by omega)]
    simp only [sibylref03_Join.j5]
    rw [if_neg (by omega), w64 (x := q + 1) (by omega) (by omega), w64 (x := q + 1 + 1075) (by omega) (by omega)]
    by_cases hbig : q + 1 + 1075 > 2046
    · rw [if_pos hbig, Nat.min_eq_right (by omega)]
      refine congrArg some ?_
      rw [wuE]; omega
    · rw [if_neg hbig, Nat.min_eq_left (by omega)]
      refine congrArg some ?_
      simp only [wuE]; omega
  · refine Ev.step2 (f := fun _ => some ((sg + min ((q + 1074).toNat * 4503599627370496 + m) 9218868437227405312 : Nat) : Int)) (fun k => ?_) (Ev.now _)
    simp only [sibylref03_Join.j4]
    rw [if_neg (by omega)]
    simp only [sibylref03_Join.j5]
    by_cases hsub : m < 4503599627370496
    · have := hlow hsub
      subst this
      rw [if_pos (by omega), Nat.min_eq_left (by omega)]
      refine congrArg some ?_
      rw [wuE]; omega
    · rw [if_neg (by omega), w64 (x := q + 1075) (by omega) (by omega)]
      by_cases hbig : q + 1075 > 2046
      · rw [if_pos hbig, Nat.min_eq_right (by omega)]
        refine congrArg some ?_
        rw [wuE]; omega
      · rw [if_neg hbig, Nat.min_eq_left (by omega)]
        refine congrArg some ?_
        simp only [wuE]; omega
theorem join_up {sg man : Nat} {q : Int} {r : Int} (hq0 : -1074 ≤ q) (hq1 : q ≤ 10000) : ∀ (j m : Nat), m * 2 ^ j < 18446744073709551616 → j ≤ 10000 →
    Ev (fun k => sibylref03_Join.j4 k (sg : Int) q ((m * 2 ^ j : Nat) : Int)) r → Ev (fun k => sibylref03_Join.l0 k (man : Int) (q + (j : Int)) (sg : Int) q (m : Int)) r := by
  intro j
  induction j with
  | zero =>
    intro m hm _ h
    refine Ev.step (f := fun k => sibylref03_Join.j4 k (sg : Int) q ((m * 2 ^ 0 : Nat) : Int)) (fun k => ?_) h
    simp only [sibylref03_Join.l0]
    rw [if_neg (by omega), if_neg (by omega), Nat.pow_zero, Nat.mul_one]
  | succ j ih =>
    intro m hm hj h
    have e : m * 2 ^ (j + 1) = (m * 2) * 2 ^ j := by rw [Nat.pow_succ]; simp only [Nat.mul_assoc, Nat.mul_comm]
    have hp := Nat.two_pow_pos j
    have hm2 : m * 2 ≤ (m * 2) * 2 ^ j := Nat.le_mul_of_pos_right _ hp
    rw [e] at hm h
    refine Ev.step (f := fun k => sibylref03_Join.l0 k (man : Int) (q + (j : Int)) (sg : Int) q ((m * 2 : Nat) : Int)) (fun k => ?_) (ih (m * 2) hm (by omega) h)
    simp only [sibylref03_Join.l0]
    rw [if_pos (by omega), w64 (by omega) (by omega), wu64 (by omega) (by omega)]
    congr 1
    omega
end Go.Proofs.Ytjppanekddljbaa.Lb
