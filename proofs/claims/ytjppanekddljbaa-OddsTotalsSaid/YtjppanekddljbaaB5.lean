/- What the reference's Join, round and Add answer: Ieee's own. -/
import Derived.Test.YtjppanekddljbaaB4
namespace Go.Proofs.Ytjppanekddljbaa.Lb
set_option linter.unusedVariables false
set_option linter.unusedSimpArgs false
open Go.RowKit Go.Proofs.Ytjppanekddljbaa.Pr Go.Proofs.YtjppanekddljbaaW.PrintWords Go.Proofs.YtjppanekddljbaaW.PrintLast Go.Proofs.YtjppanekddljbaaW.PrintMore
open Go.Proofs.Ytjppanekddljbaa.Fl

theorem shrN {y s : Nat} (hs : s ≤ 64) : shr .u64 ((y : Nat) : Int) ((s : Nat) : Int) = ((y / 2 ^ s : Nat) : Int) := by
  have e : ((2 : Int) ^ s) = ((2 ^ s : Nat) : Int) := by rw [Int.natCast_pow]; rfl
  unfold shr
  rw [Int.toNat_natCast, Nat.min_eq_left (by simp [IntKind.bits]; omega), e]
  exact (Int.natCast_ediv y _).symm
theorem shlN {y s : Nat} (hs : s ≤ 64) (h : y * 2 ^ s < 18446744073709551616) : shl .u64 ((y : Nat) : Int) ((s : Nat) : Int) = ((y * 2 ^ s : Nat) : Int) := by
  have e : ((y : Nat) : Int) * 2 ^ s = ((y * 2 ^ s : Nat) : Int) := by rw [Int.natCast_mul, Int.natCast_pow]; rfl
  unfold shl
  rw [Int.toNat_natCast, Nat.min_eq_left (by simp [IntKind.bits]; omega), e, wuN h]
theorem shl_one {s : Nat} (hs : s ≤ 63) : shl .u64 1 ((s : Nat) : Int) = ((2 ^ s : Nat) : Int) := by
  have h : 2 ^ s ≤ 2 ^ 63 := Nat.pow_le_pow_right (by decide) hs
  have := shlN (y := 1) (s := s) (by omega) (by omega)
  rw [Nat.one_mul] at this
  exact this
/-- less than the last digit that is kept -/
theorem join_down {sg man : Nat} {q : Int} {s : Nat} {r : Int} (hm : man < 18446744073709551616) (hs1 : 1 ≤ s) (hs2 : s ≤ 64) (hq0 : -10000 ≤ q) (hq1 : q ≤ 10000)
    (h : Ev (fun k => sibylref03_Join.j4 k (sg : Int) q ((rhe man s : Nat) : Int)) r) : Ev (fun k => sibylref03_Join.l0 k (man : Int) (q - (s : Int)) (sg : Int) q (man : Int)) r := by
  refine Ev.step (f := fun k => sibylref03_Join.j4 k (sg : Int) q ((rhe man s : Nat) : Int)) (fun k => ?_) h
  simp only [sibylref03_Join.l0]
  rw [if_neg (by omega), if_pos (by omega)]
  have e1 : wrap64 (q - (q - (s : Int))) = ((s : Nat) : Int) := by rw [w64 (by omega) (by omega)]; omega
  have e2 : IntKind.u64.wrap (wrap64 (((s : Nat) : Int) - 1)) = ((s - 1 : Nat) : Int) := by rw [w64 (by omega) (by omega), wu64 (by omega) (by omega)]; omega
  have hpow : 2 * 2 ^ (s - 1) = 2 ^ s := by rw [Nat.mul_comm, ← Nat.pow_succ]; congr 1; omega
  rw [e1, e2, shl_one (by omega), if_neg (by omega), if_pos (by omega)]
  have hdm := Nat.div_add_mod man (2 ^ s)
  by_cases h64 : s < 64
  · have e3 : IntKind.u64.wrap ((s : Nat) : Int) = ((s : Nat) : Int) := wuN (by omega)
    have hle : man / 2 ^ s * 2 ^ s ≤ man := Nat.div_mul_le_self _ _
    have hq : man / 2 ^ s ≤ man / 2 := by
      have : 2 ^ 1 ≤ 2 ^ s := Nat.pow_le_pow_right (by decide) hs1
      exact Nat.div_le_div_left (by omega) (by decide)
    have e4 : IntKind.u64.wrap (((man : Nat) : Int) - ((man / 2 ^ s * 2 ^ s : Nat) : Int)) = ((man % 2 ^ s : Nat) : Int) := by
      rw [wu64 (by omega) (by omega)]
      have := Nat.mul_comm (man / 2 ^ s) (2 ^ s)
      omega
    rw [if_pos (by omega), e3, if_pos (by omega), shrN (by omega), shlN (by omega) (by omega), e4]
    have e5 : IntKind.u64.wrap (((man / 2 ^ s : Nat) : Int) + 1) = ((man / 2 ^ s + 1 : Nat) : Int) := by
      obtain ⟨Q, hQ⟩ : ∃ Q, man / 2 ^ s = Q := ⟨_, rfl⟩
      rw [hQ] at hq ⊢
      rw [wu64 (by omega) (by omega)]; rfl
    rw [e5, tmod2]
    unfold rhe
    clear e1 e2 e3 e4 e5 hle hq hdm
    obtain ⟨Q, hQ⟩ : ∃ Q, man / 2 ^ s = Q := ⟨_, rfl⟩
    obtain ⟨R, hR⟩ : ∃ R, man % 2 ^ s = R := ⟨_, rfl⟩
    rw [hQ, hR]
    clear hQ hR
    obtain ⟨P, hP⟩ : ∃ P, 2 ^ s = P := ⟨_, rfl⟩
    obtain ⟨H, hH⟩ : ∃ H, 2 ^ (s - 1) = H := ⟨_, rfl⟩
    rw [hP, hH] at hpow
    rw [hP, hH]
    clear hP hH
    by_cases c1 : P < 2 * R
    · rw [if_pos (by omega), decide_eq_true c1]
      rfl
    · rw [if_neg (by omega), decide_eq_false c1, Bool.false_or]
      by_cases c2 : P = 2 * R
      · rw [if_pos (by omega), decide_eq_true c2, Bool.true_and]
        by_cases c3 : Q % 2 = 1
        · rw [if_pos (by omega), decide_eq_true c3]; rfl
        · rw [if_neg (by omega), decide_eq_false c3]; rfl
      · rw [if_neg (by omega), decide_eq_false c2, Bool.false_and]; rfl
  · obtain rfl : s = 64 := by omega
    rw [if_neg (by omega)]
    have z1 : man / 2 ^ 64 = 0 := Nat.div_eq_of_lt (by omega)
    have z2 : man % 2 ^ 64 = man := Nat.mod_eq_of_lt (by omega)
    unfold rhe
    rw [z1, z2]
    by_cases c1 : 2 ^ 64 < 2 * man
    · rw [if_pos (by omega), decide_eq_true c1]; rfl
    · rw [if_neg (by omega), decide_eq_false c1, Bool.false_or]
      by_cases c2 : 2 ^ 64 = 2 * man
      · rw [if_pos (by omega), if_neg (by decide), decide_eq_true c2]; rfl
      · rw [if_neg (by omega), decide_eq_false c2]; rfl

theorem kept_le {man : Nat} (h0 : man ≠ 0) (exp : Int) : keptOf man (lastOf man exp - exp) ≤ 9007199254740992 := by
  have hlog := Nat.lt_log2_self (n := man)
  have hD : (man.log2 : Int) - 52 ≤ lastOf man exp - exp := by unfold lastOf; omega
  unfold keptOf
  rcases Int.le_total 0 (lastOf man exp - exp) with h | h
  · rw [show (-(lastOf man exp - exp)).toNat = 0 by omega, Nat.pow_zero, Nat.mul_one]
    have h1 := rhe_le man (lastOf man exp - exp).toNat
    have h2 : man / 2 ^ (lastOf man exp - exp).toNat < 2 ^ 53 := by
      rw [Nat.div_lt_iff_lt_mul (Nat.two_pow_pos _), ← Nat.pow_add]
      exact Nat.lt_of_lt_of_le hlog (Nat.pow_le_pow_right (by decide) (by omega))
    omega
  · rw [show (lastOf man exp - exp).toNat = 0 by omega, rhe_zero]
    have h2 : man * 2 ^ (-(lastOf man exp - exp)).toNat < 2 ^ (man.log2 + 1) * 2 ^ (-(lastOf man exp - exp)).toNat := Nat.mul_lt_mul_of_pos_right hlog (Nat.two_pow_pos _)
    rw [← Nat.pow_add] at h2
    have h3 : 2 ^ (man.log2 + 1 + (-(lastOf man exp - exp)).toNat) ≤ 2 ^ 53 := Nat.pow_le_pow_right (by decide) (by omega)
    omega
theorem kept_ge {man : Nat} (h0 : man ≠ 0) (exp : Int) (hl : -1074 < lastOf man exp) : 4503599627370496 ≤ keptOf man (lastOf man exp - exp) := by
  have hlog := Nat.log2_self_le h0
  have hD : lastOf man exp - exp = (man.log2 : Int) - 52 := by unfold lastOf at hl ⊢; omega
  rw [hD]
  unfold keptOf
  rcases Int.le_total 0 ((man.log2 : Int) - 52) with h | h
  · rw [show (-((man.log2 : Int) - 52)).toNat = 0 by omega, Nat.pow_zero, Nat.mul_one]
    refine Nat.le_trans ?_ (rhe_ge _ _)
    rw [Nat.le_div_iff_mul_le (Nat.two_pow_pos _)]
    have : 4503599627370496 * 2 ^ ((man.log2 : Int) - 52).toNat = 2 ^ man.log2 := by
      rw [show (4503599627370496 : Nat) = 2 ^ 52 from rfl, ← Nat.pow_add]; congr 1; omega
    omega
  · rw [show ((man.log2 : Int) - 52).toNat = 0 by omega, rhe_zero]
    have h2 : 2 ^ man.log2 * 2 ^ (-((man.log2 : Int) - 52)).toNat ≤ man * 2 ^ (-((man.log2 : Int) - 52)).toNat := Nat.mul_le_mul_right _ hlog
    rw [← Nat.pow_add, show man.log2 + (-((man.log2 : Int) - 52)).toNat = 52 by omega] at h2
    exact h2
def signedW (neg : Bool) (r : Nat) : Nat := if neg then 9223372036854775808 + r else r
theorem join_ev {neg : Bool} {man : Nat} {exp : Int} (h0 : man ≠ 0) (hm : man < 18446744073709551616) (he0 : -3000 ≤ exp) (he1 : exp ≤ 3000) :
    Ev (fun k => sibylref03_Join.f k neg (man : Int) exp) ((signedW neg (rn man exp) : Nat) : Int) := by
  obtain ⟨sg, hsg⟩ : ∃ sg : Nat, (if neg then 9223372036854775808 else 0) = sg := ⟨_, rfl⟩
  have hsg2 : sg ≤ 9223372036854775808 := by rw [← hsg]; split <;> omega
  have hsz : size man = man.log2 + 1 := by unfold size; rw [if_neg h0]
  have hs64 := size_le64 hm
  refine Ev.congr (f := fun k => sibylref03_Join.j0 k (man : Int) exp (sg : Int)) (fun k => ?_) ?_
  · unfold sibylref03_Join.f
    subst hsg
    cases neg <;> rfl
  · obtain ⟨q, hq⟩ : ∃ q, lastOf man exp = q := ⟨_, rfl⟩
    have hq0 : -1074 ≤ q := by rw [← hq]; unfold lastOf; omega
    have hq1 : q ≤ 4000 := by rw [← hq]; unfold lastOf; omega
    have hkl := kept_le h0 exp
    have hkg := fun h => kept_ge h0 exp h
    rw [hq] at hkl hkg
    have hrn : ((signedW neg (rn man exp) : Nat) : Int) = ((sg + min ((q + 1074).toNat * 4503599627370496 + keptOf man (q - exp)) 9218868437227405312 : Nat) : Int) := by
      unfold signedW rn
      rw [if_neg h0, hq, ← hsg]
      cases neg
      · simp only [Bool.false_eq_true, if_false]; rw [Nat.zero_add]
      · simp only [if_true]
    rw [hrn]
    have htail := join_tail hsg2 hq0 (by omega) hkl (fun hlt => by
      refine Decidable.byContradiction fun hne => ?_
      have := hkg (by omega)
      omega)
    refine Ev.step2 (f := fun k => (sibylref03_length.f k (man : Int)).bind fun t392 => (if (wrap64 ((wrap64 (exp + t392)) - 53)) < (-1074) then (sibylref03_Join.j2 k (man : Int) exp (sg : Int) (-1074)) else (sibylref03_Join.j2 k (man : Int) exp (sg : Int) (wrap64 ((wrap64 (exp + t392)) - 53))))) (fun k => ?_) ?_
    · simp only [sibylref03_Join.j0]
      rw [if_neg (by omega)]
      simp only [sibylref03_Join.j1]
      rw [if_neg (by simp; omega), if_neg (by omega)]
    · refine Ev.bind (length_ev hm) ?_
      refine Ev.congr (f := fun k => sibylref03_Join.j2 k (man : Int) exp (sg : Int) q) (fun k => ?_) ?_
      · rw [w64 (x := exp + ((size man : Nat) : Int)) (by omega) (by omega), w64 (by omega) (by omega)]
        by_cases hlow : exp + ((size man : Nat) : Int) - 53 < -1074
        · rw [if_pos hlow]; congr 1; rw [← hq]; unfold lastOf; omega
        · rw [if_neg hlow]; congr 1; rw [← hq]; unfold lastOf; omega
      · refine Ev.step (f := fun k => sibylref03_Join.l0 k (man : Int) exp (sg : Int) q (man : Int)) (fun k => by simp only [sibylref03_Join.j2]) ?_
        rcases Int.le_total q exp with h | h
        · obtain ⟨j, hj⟩ : ∃ j : Nat, exp = q + (j : Int) := ⟨(exp - q).toNat, by omega⟩
          have hk : keptOf man (q - exp) = man * 2 ^ j := by
            unfold keptOf
            rw [show (q - exp).toNat = 0 by omega, rhe_zero, show (-(q - exp)).toNat = j by omega]
          rw [hk] at htail hkl
          rw [hk]
          rw [hj]
          exact join_up hq0 (by omega) j man (by omega) (by omega) htail
        · rcases Int.lt_or_eq_of_le h with h | h
          · obtain ⟨s, hs⟩ : ∃ s : Nat, exp = q - (s : Int) := ⟨(q - exp).toNat, by omega⟩
            have hk : keptOf man (q - exp) = rhe man s := by
              unfold keptOf
              rw [show (-(q - exp)).toNat = 0 by omega, Nat.pow_zero, Nat.mul_one, show (q - exp).toNat = s by omega]
            rw [hk] at htail
            rw [hk]
            by_cases hbig : s ≤ 64
            · rw [hs]
              exact join_down hm (by omega) hbig (by omega) (by omega) htail
            · have hz : rhe man s = 0 := rhe_small (by
                have : 2 ^ 65 ≤ 2 ^ s := Nat.pow_le_pow_right (by decide) (by omega)
                omega)
              have hqq : q = -1074 := by
                refine Decidable.byContradiction fun hne => ?_
                have := hkg (by omega)
                rw [hk, hz] at this
                omega
              rw [hz]
              refine Ev.step (f := fun _ => some (sg : Int)) (fun k => ?_) ?_
              · simp only [sibylref03_Join.l0]
                rw [if_neg (by omega), if_pos (by omega), w64 (by omega) (by omega), if_pos (by omega)]
              · rw [hqq]
                exact Ev.now _
          · have hk : keptOf man (q - exp) = man * 2 ^ 0 := by
              unfold keptOf
              rw [show (q - exp).toNat = 0 by omega, rhe_zero, show (-(q - exp)).toNat = 0 by omega]
            rw [hk] at htail
            rw [hk]
            have := join_up (man := man) hq0 (by omega) 0 man (by omega) (by omega) htail
            rw [show q + ((0 : Nat) : Int) = exp by omega] at this
            exact this
end Go.Proofs.Ytjppanekddljbaa.Lb
