/- What the reference's functions on bits answer: Bits, length, Parts. -/
import Derived.Test.YtjppanekddljbaaA3
import Derived.Test.YtjppanekddljbaaB2
import Derived.Test.YtjppanekddljbaaF1
namespace Go.Proofs.Ytjppanekddljbaa.Lb
set_option linter.unusedVariables false
set_option linter.unusedSimpArgs false
open Go.RowKit Go.Proofs.Ytjppanekddljbaa.Pr Go.Proofs.YtjppanekddljbaaW.PrintWords Go.Proofs.YtjppanekddljbaaW.PrintLast Go.Proofs.YtjppanekddljbaaW.PrintMore
open Go.Proofs.Ytjppanekddljbaa.Fl

/-! Bits -/
def size (n : Nat) : Nat := if n = 0 then 0 else n.log2 + 1
theorem size_half {n : Nat} (h : n ≠ 0) : size n = size (n / 2) + 1 := by
  unfold size
  rw [if_neg h]
  by_cases h2 : n / 2 = 0
  · rw [if_pos h2, show n = 1 by omega]; decide
  · rw [if_neg h2, Nat.log2_def n, if_pos (by omega)]
theorem tdiv2 (n : Nat) : Int.tdiv (n : Int) 2 = ((n / 2 : Nat) : Int) := rfl
theorem bits_loop : ∀ (m : Nat) (x c : Nat), x ≤ m → x < 4294967296 → c + size x ≤ 1000000000 →
    Ev (fun k => sibylref01_Bits.l0 k (c : Int) (x : Int)) ((c + size x : Nat) : Int) := by
  intro m
  induction m with
  | zero =>
    intro x c hx _ _
    rw [show x = 0 by omega]
    exact Ev.step (f := fun _ => some (c : Int)) (fun k => by simp only [sibylref01_Bits.l0]; rw [if_neg (by omega)]) (Ev.now _)
  | succ m ih =>
    intro x c hx hlt hc
    by_cases h0 : x = 0
    · subst h0
      exact Ev.step (f := fun _ => some (c : Int)) (fun k => by simp only [sibylref01_Bits.l0]; rw [if_neg (by omega)]) (Ev.now _)
    · have hs := size_half h0
      refine Ev.step (f := fun k => sibylref01_Bits.l0 k ((c + 1 : Nat) : Int) ((x / 2 : Nat) : Int)) (fun k => ?_) ?_
      · simp only [sibylref01_Bits.l0]
        rw [if_pos (by omega), w64 (by omega) (by omega), tdiv2, modB (by omega)]
        rfl
      · have := ih (x / 2) (c + 1) (by omega) (by omega) (by omega)
        rw [show c + size x = c + 1 + size (x / 2) by omega]
        exact this
theorem size_mul {a n : Nat} (h : a ≠ 0) : size (a * 2 ^ n) = size a + n := by
  induction n with
  | zero => simp
  | succ n ih =>
    have h1 : a * 2 ^ (n + 1) ≠ 0 := Nat.mul_ne_zero h (Nat.ne_of_gt (Nat.two_pow_pos _))
    rw [size_half h1, show a * 2 ^ (n + 1) / 2 = a * 2 ^ n by rw [Nat.pow_succ, ← Nat.mul_assoc, Nat.mul_div_cancel _ (by decide)], ih]
    omega
theorem size_div (n i : Nat) (h : n / 2 ^ i ≠ 0) : size n = size (n / 2 ^ i) + i := by
  induction i with
  | zero => simp
  | succ i ih =>
    have e : n / 2 ^ (i + 1) = n / 2 ^ i / 2 := by rw [Nat.pow_succ, Nat.div_div_eq_div_mul]
    rw [e] at h ⊢
    have h1 : n / 2 ^ i ≠ 0 := by omega
    have h2 := size_half h1
    have := ih h1
    omega
theorem size_lt (n : Nat) : n < 2 ^ size n := by
  unfold size
  by_cases h : n = 0
  · rw [if_pos h]; omega
  · rw [if_neg h]; exact Nat.lt_log2_self
theorem size_le_of_lt {n m : Nat} (h : n < 2 ^ m) : size n ≤ m := by
  unfold size
  by_cases h0 : n = 0
  · rw [if_pos h0]; omega
  · rw [if_neg h0]; exact (Nat.log2_lt h0).2 h
theorem size_ge {n : Nat} (h : n ≠ 0) : 2 ^ (size n - 1) ≤ n := by
  unfold size
  rw [if_neg h, Nat.add_sub_cancel]
  exact Nat.log2_self_le h
theorem bits_ev {a : List Nat} (ha : Lim a) (hla : a.length ≤ 1000000) : Ev (fun k => sibylref01_Bits.f k (U a)) ((size (val a) : Nat) : Int) := by
  unfold sibylref01_Bits.f
  refine Ev.bind (trim_ev ha hla) ?_
  have n1 := norm_len ha
  rw [U_length]
  by_cases h0 : val a = 0
  · rw [h0, norm_zero]
    exact Ev.congr (f := fun _ => some 0) (fun k => if_pos (by simp)) (Ev.now _)
  · obtain ⟨b, x, hb, hx⟩ : ∃ b x, norm (val a) = b ++ [x] ∧ x ≠ 0 := by
      rcases norm_last (val a) with h | h
      · have := val_norm (val a); rw [h] at this; exact absurd this.symm h0
      · exact h
    have hlen : (norm (val a)).length = b.length + 1 := by rw [hb]; simp
    have hxl : x < 4294967296 := lim_norm (val a) x (by rw [hb]; simp)
    have hgd : (norm (val a)).getD b.length 0 = x := by rw [hb, List.getD, List.getElem?_append_right (Nat.le_refl _)]; simp
    have hv : val a / 2 ^ (32 * b.length) = x := by
      have h1 := val_norm (val a)
      rw [hb, val_snoc, pow32] at h1
      have h2 : val b < 2 ^ (32 * b.length) := by
        rw [← pow32]
        exact val_lt (fun y hy => lim_norm (val a) y (by rw [hb]; simp [hy]))
      rw [← h1, Nat.add_mul_div_left _ _ (Nat.two_pow_pos _), Nat.div_eq_of_lt h2, Nat.zero_add]
    have hs := size_div (val a) (32 * b.length) (by rw [hv]; exact hx)
    rw [hv] at hs
    have hsx : size x ≤ 32 := size_le_of_lt (by simpa using hxl)
    refine Ev.congr (f := fun k => sibylref01_Bits.l0 k ((32 * b.length : Nat) : Int) (x : Int)) (fun k => ?_) ?_
    · rw [if_neg (by omega), if_pos (by rw [w64 (by omega) (by omega)]; omega), if_pos (by rw [w64 (by omega) (by omega)]; omega),
        show wrap64 (((norm (val a)).length : Int) - 1) = (b.length : Int) from by rw [w64 (by omega) (by omega)]; omega, rd_U, hgd, w64 (by omega) (by omega)]
      rfl
    · have := bits_loop x x (32 * b.length) (Nat.le_refl _) hxl (by omega)
      rw [hs, Nat.add_comm]
      exact this

/-! length -/
theorem length_loop : ∀ (m : Nat) (x c : Nat), size x = m → x < 18446744073709551616 → c + size x ≤ 1000 →
    Ev (fun k => sibylref03_length.l0 k (x : Int) (c : Int)) ((c + size x : Nat) : Int) := by
  intro m
  induction m with
  | zero =>
    intro x c hx _ _
    have h0 : x = 0 := by
      refine Decidable.byContradiction fun h => ?_
      unfold size at hx; rw [if_neg h] at hx; omega
    subst h0
    exact Ev.step (f := fun _ => some (c : Int)) (fun k => by simp only [sibylref03_length.l0]; rw [if_neg (by omega)]) (Ev.now _)
  | succ m ih =>
    intro x c hx hlt hc
    have h0 : x ≠ 0 := fun h => by subst h; simp [size] at hx
    have hs := size_half h0
    refine Ev.step (f := fun k => sibylref03_length.l0 k ((x / 2 : Nat) : Int) ((c + 1 : Nat) : Int)) (fun k => ?_) ?_
    · simp only [sibylref03_length.l0]
      rw [if_pos (by omega), w64 (by omega) (by omega), tdiv2, wuN (by omega)]
      rfl
    · have := ih (x / 2) (c + 1) (by omega) (by omega) (by omega)
      rw [show c + size x = c + 1 + size (x / 2) by omega]
      exact this
theorem length_ev {x : Nat} (hx : x < 18446744073709551616) : Ev (fun k => sibylref03_length.f k (x : Int)) ((size x : Nat) : Int) := by
  have h1 : size x ≤ 64 := size_le_of_lt (by simpa using hx)
  have := length_loop (size x) x 0 rfl hx (by omega)
  rw [Nat.zero_add] at this
  exact this

/-! Size, IsNaN -/
theorem tmod63 (x : Nat) : Int.tmod (x : Int) 9223372036854775808 = ((x % 9223372036854775808 : Nat) : Int) := (Int.ofNat_tmod x 9223372036854775808).symm
theorem isNaN_ev (x : Nat) : sibylref03_IsNaN.f (x : Int) = some (isNaN x) := by
  unfold sibylref03_IsNaN.f sibylref03_Size.f isNaN
  rw [tmod63]
  simp only [Option.bind_some, Option.some.injEq]
  exact decide_eq_decide.2 (by omega)
end Go.Proofs.Ytjppanekddljbaa.Lb
