/- The float externs and odds.NaN, odds worth: what each call returns. -/
import Derived.Test.YtjppanekddljbaaA0
import Derived.WalkLawsBesides
import Derived.Laws.StandIn
namespace Go.Proofs.Ytjppanekddljbaa.H
set_option linter.unusedVariables false
set_option linter.unusedSimpArgs false
open Go.RowKit Go.Proofs.YtjppanekddljbaaW.PrintWords Go.Proofs.YtjppanekddljbaaW.PrintLast Go.Proofs.YtjppanekddljbaaW.PrintMore

theorem run_frombits (n : Int) (w : World) : (callFunc 28 #[.int .u64 n]).run Try.prog w = .ok (.value (.float .f64 n.toNat)) w := by
  rw [run_callFunc_extern (P := Try.prog) (f := 28) (fn := Try.f28) (e := Extern.MathFloatBits.float64frombits) (by kernel_rfl) (by kernel_rfl) (by kernel_rfl) (by kernel_rfl) (by kernel_rfl)]
  rfl
theorem run_bits (n : Nat) (w : World) : (callFunc 13 #[.float .f64 n]).run Try.prog w = .ok (.value (.int .u64 n)) w := by
  rw [run_callFunc_extern (P := Try.prog) (f := 13) (fn := Try.f13) (e := Extern.MathFloatBits.float64bits) (by kernel_rfl) (by kernel_rfl) (by kernel_rfl) (by kernel_rfl) (by kernel_rfl)]
  rfl
theorem nan_calls (w : World) :
    Calls Try.prog 25 #[] w fun e w' => e = .returned (.float .f64 9221120237041090561) ∧ Drawn0 w w' := by
  have h := run_frombits 9221120237041090561
  go_enter Try.func25, Try.ntmps25
  go_wp2
  go_ret
  exact ⟨rfl, Drawn0.refl _⟩
theorem worth_calls (x : Nat) (w : World) :
    Calls Try.prog 47 #[.float .f64 x] w fun e w' => e = .returned (.float .f64 (if (FloatKind.f64.format.order x 0 == some .gt) = true then x else 0)) ∧ Drawn0 w w' := by
  by_cases h : (FloatKind.f64.format.order x 0 == some .gt) = true
  · rw [if_pos h]
    go_enter Try.func47, Try.ntmps47
    go_wp2
    go_ret
    exact ⟨rfl, Drawn0.refl _⟩
  · rw [if_neg h]
    replace h := Bool.eq_false_iff.mpr h
    go_enter Try.func47, Try.ntmps47
    go_wp2
    go_ret
    exact ⟨rfl, Drawn0.refl _⟩
end Go.Proofs.Ytjppanekddljbaa.H
