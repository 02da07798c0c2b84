/- Reading a cut of a slice. -/
import Derived.Test.YtjppanekddljbaaH0
namespace Go.Proofs.Ytjppanekddljbaa.H
set_option linter.unusedVariables false
set_option linter.unusedSimpArgs false
open Go.RowKit Go.Proofs.YtjppanekddljbaaW.PrintWords Go.Proofs.YtjppanekddljbaaW.PrintLast Go.Proofs.YtjppanekddljbaaW.PrintMore

/-- How many limbs are left if noughts at the end are cut off. -/
def cutn (l : List Int) : Nat → Nat
  | 0 => 0
  | n + 1 => if rd l n = 0 then cutn l n else n + 1
theorem cutn_le (l : List Int) : ∀ n, cutn l n ≤ n
  | 0 => Nat.le_refl _
  | n + 1 => by
    have := cutn_le l n
    unfold cutn
    split <;> omega
def cutL (l : List Int) : List Int := l.take (cutn l l.length)
theorem cutL_length (l : List Int) : (cutL l).length = cutn l l.length := by
  have := cutn_le l l.length
  simp [cutL]; omega
theorem cutL_le (l : List Int) : (cutL l).length ≤ l.length := by
  have := cutn_le l l.length
  rw [cutL_length]
  exact this
theorem C_cutL {w : World} {A : Option Addr} {l : List Int} (h : Kd.C (Kd.int .u32) w A l.length l) : Kd.C (Kd.int .u32) w A (cutL l).length (cutL l) := Kd.C_take h (cutn_le l l.length)

set_option maxHeartbeats 1000000 in
/-- cut, of a row that is read: the row's begin. -/
theorem cut_reads (A : Option Addr) (c : Nat) (l : List Int) (w : World) (hr : Kd.C (Kd.int .u32) w A l.length l) (hc : l.length ≤ c) :
    Calls Try.prog 92 #[.slice A l.length c] w fun e w' => e = .returned (.slice A (cutL l).length c) ∧ Drawn0 w w' := by
  have HR := Aside0.mk hr
  have hmax : l.length ≤ 9223372036854775807 := hr.2.1
  clear hr
  go_enter Try.func92, Try.ntmps92
  go_wp2
  go_loopg [3] l.length (fun kq v3 w' => ∃ n : Nat, v3 = .int .i64 n ∧ n = kq ∧ n ≤ l.length ∧ Aside0 (cutn l n = cutn l l.length) ∧ w' = w)
  case atStart => exact ⟨l.length, rfl, rfl, Nat.le_refl _, ⟨rfl⟩, rfl⟩
  case round =>
    obtain ⟨n, rfl, rfl, hn, HE, rfl⟩ := hrel
    cases n with
    | zero =>
      have HL : Aside0 ((cutL l).length = 0) := ⟨(cutL_length l).trans HE.out.symm⟩
      clear HE
      go_wp2
      go_ret
      exact ⟨by rw [HL.out]; rfl, Drawn0.refl _⟩
    | succ m =>
      obtain ⟨ad, e, hx⟩ := Kd.at_int HR.out (m : Int) (by omega) (by omega)
      cases e
      simp only [Int.toNat_natCast] at hx
      by_cases h0 : rd l m = 0
      · have h0b : (rd l m == 0) = true := beq_iff_eq.mpr h0
        have HE2 : Aside0 (cutn l m = cutn l l.length) := ⟨by rw [← HE.out, cutn, if_pos h0]⟩
        clear HE h0
        go_wp2
        go_roundg m
        case measure => omega
        case rel => exact ⟨m, by go_num, rfl, by omega, HE2, rfl⟩
      · have h0b : (rd l m == 0) = false := beq_eq_false_iff_ne.mpr h0
        have HL : Aside0 ((cutL l).length = m + 1) := ⟨by rw [cutL_length l, ← HE.out, cutn, if_neg h0]⟩
        clear HE h0
        go_wp2
        go_ret
        exact ⟨by rw [HL.out]; rfl, Drawn0.refl _⟩
end Go.Proofs.Ytjppanekddljbaa.H
