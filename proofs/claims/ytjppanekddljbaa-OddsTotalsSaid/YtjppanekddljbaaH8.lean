/- odds.Total: the Go code answers the sum of the floats, from the first on. -/
import Derived.Test.YtjppanekddljbaaH7
import Derived.Test.YtjppanekddljbaaF0
namespace Go.Proofs.Ytjppanekddljbaa.H
open Go.RowKit Go.Proofs.Ytjppanekddljbaa.Pr Go.Proofs.YtjppanekddljbaaW.PrintWords Go.Proofs.YtjppanekddljbaaW.PrintLast Go.Proofs.YtjppanekddljbaaW.PrintMore
open Go.Proofs.Ytjppanekddljbaa.Fl
set_option linter.unusedVariables false
set_option linter.unusedSimpArgs false

/-! floats in memory -/
def kf : Kd Nat := Kd.scalar (Value.float .f64) (fun _ => rfl)
theorem info25 : (Try.prog.info? 25).map (fun i => (i.zero, i.size, i.bytes)) = some (some (.float .f64 0), 1, 8) := by kernel_rfl
theorem at_f {w : World} {A : Option Addr} {n : Nat} {xs : List Nat} (h : kf.C w A n xs) (i : Int) (h0 : 0 ≤ i) (h1 : i < n) : ∃ ad, A = some ad ∧ w.cell? (ad.add i.toNat) = some (.float .f64 (xs.getD i.toNat 0)) := by
  have h' := Kd.reads_of_C (d := 0) h
  obtain ⟨ad, e, hc⟩ := h'.2.2 (by omega)
  exact ⟨ad, e, by simpa using hc i.toNat (by omega)⟩

/-! sums -/
theorem run_add_ok {x y r : Nat} (h : Ieee.double.add x y = some r) (t : TypeId) (w : World) : (binOp .add t (.float .f64 x) (.float .f64 y)).run Try.prog w = .ok (.float .f64 r) w := run_float_arith w .add t .f64 x y r h
theorem run_add_nan {x y : Nat} (h : Ieee.double.add x y = none) (t : TypeId) (w : World) : ∃ b, isNaN b = true ∧ (binOp .add t (.float .f64 x) (.float .f64 y)).run Try.prog w = .ok (.float .f64 b) w.drew := by
  refine ⟨(Question.nanBits .f64 x y).cut (w.tape w.drawn (.nanBits .f64 x y)), nan_cut _, ?_⟩
  have h' : FloatKind.f64.format.add x y = none := h
  simp only [binOp, Op.floatArith, h']
  simp [run_choose_drew, Question.forced]

/-- the sum of a list, from nought on; none: it is no number -/
def sumF (l : List Nat) : Option Nat := l.foldl (fun a x => a.bind fun a => Ieee.double.add a x) (some 0)
theorem sumF_snoc (l : List Nat) (x : Nat) : sumF (l ++ [x]) = (sumF l).bind fun a => Ieee.double.add a x := by simp [sumF]
theorem sumF_not_nan {l : List Nat} {a : Nat} (h : sumF l = some a) : isNaN a = false := by
  rcases List.eq_nil_or_concat l with rfl | ⟨l', x, rfl⟩
  · obtain rfl := Option.some.inj h; decide
  · rw [List.concat_eq_append, sumF_snoc] at h
    obtain ⟨b, _, hb⟩ := Option.bind_eq_some_iff.1 h
    exact add_not_nan hb
/-- what stands for a sum in the machine: the sum, or some NaN -/
def Stands (s : Option Nat) (b : Nat) : Prop := match s with | some a => b = a | none => isNaN b = true
theorem stands_nan {s : Option Nat} {b : Nat} (h : Stands s b) (hn : isNaN b = true) (hs : ∀ a, s = some a → isNaN a = false) : s = none := by
  cases s with
  | none => rfl
  | some a => exact absurd hn (by rw [show b = a from h, hs a rfl]; decide)
theorem run_add_stands {s : Option Nat} {b x : Nat} (h : Stands s b) (t : TypeId) (w : World) :
    ∃ b' w', Drawn0 w w' ∧ Stands (s.bind fun a => Ieee.double.add a x) b' ∧ (binOp .add t (.float .f64 b) (.float .f64 x)).run Try.prog w = .ok (.float .f64 b') w' := by
  have none_case : Ieee.double.add b x = none → ∃ b' w', Drawn0 w w' ∧ isNaN b' = true ∧ (binOp .add t (.float .f64 b) (.float .f64 x)).run Try.prog w = .ok (.float .f64 b') w' := fun hn => by
    obtain ⟨b', h1, h2⟩ := run_add_nan hn t w
    exact ⟨b', _, ⟨1, rfl⟩, h1, h2⟩
  cases s with
  | none => exact none_case (add_nan_left h)
  | some a =>
    obtain rfl : b = a := h
    cases hb : Ieee.double.add b x with
    | none =>
      obtain ⟨b', w', h1, h2, h3⟩ := none_case hb
      exact ⟨b', w', h1, by simp only [hb, Option.bind_some]; exact h2, h3⟩
    | some r => exact ⟨r, w, Drawn0.refl _, by simp [hb, Stands], run_add_ok hb t w⟩

set_option maxHeartbeats 1000000 in
theorem total_calls (A : Option Addr) (c : Nat) (l : List Nat) (w : World) (hr : kf.C w A l.length l) (hc : l.length ≤ c) :
    Calls Try.prog 15 #[.slice A l.length c] w fun e w' => e = .returned (.float .f64 ((sumF l).getD 9221120237041090561)) ∧ Drawn0 w w' := by
  have hmax : l.length ≤ 9223372036854775807 := hr.2.1
  have HR := Aside0.mk hr
  clear hr
  go_enter Try.func15, Try.ntmps15
  go_wp2
  go_loopg [3, 8] l.length (fun kq v3 v8 w' => ∃ (i : Nat) (b : Nat), v8 = .int .i64 i ∧ v3 = .float .f64 b ∧ Aside0 (kq = l.length - i) ∧ i ≤ l.length ∧ Aside0 (Stands (sumF (l.take i)) b) ∧ Drawn0 w w')
  case atStart => exact ⟨0, 0, rfl, rfl, ⟨by omega⟩, by omega, ⟨rfl⟩, Drawn0.refl _⟩
  case round =>
    obtain ⟨i, b, rfl, rfl, HK, hi, HS, ⟨m, rfl⟩⟩ := hrel
    by_cases hlt : i < l.length
    · obtain ⟨ad, e, hx⟩ := at_f HR.out (i : Int) (by omega) (by omega)
      cases e
      simp only [Int.toNat_natCast] at hx
      obtain ⟨x, hxx⟩ : ∃ x, l.getD i 0 = x := ⟨_, rfl⟩
      rw [hxx] at hx
      obtain ⟨b', w2, ⟨n, hw2⟩, hs2, hadd⟩ := run_add_stands (x := x) HS.out 25 (w.drewN m)
      have hsn : (sumF (l.take (i + 1))) = (sumF (l.take i)).bind fun a => Ieee.double.add a x := by
        rw [List.take_succ_eq_append_getElem hlt, sumF_snoc, ← hxx]
        simp [List.getD, hlt]
      clear hxx
      rw [← hsn] at hs2
      have HS2 := Aside0.mk hs2
      clear hs2 hsn HS
      subst hw2
      simp only [World.drewN_drewN] at hadd
      go_wp2
      go_roundg (l.length - (i + 1))
      case measure => have := HK.out; omega
      case rel => exact ⟨i + 1, b', by go_num, rfl, ⟨rfl⟩, by omega, HS2, Drawn0.step (Drawn0.refl _) _⟩
    · have HT : Aside0 (l.take i = l) := ⟨List.take_of_length_le (by omega)⟩
      by_cases hn : isNaN b = true
      · have hord : (FloatKind.f64.format.order b b != some .eq) = true := by
          show (Ieee.double.order b b != some .eq) = true
          rw [order_nan_left hn]; decide
        have HN : Aside0 (sumF l = none) := ⟨stands_nan (HT.out ▸ HS.out) hn (fun a h => sumF_not_nan h)⟩
        clear hn HS
        go_wp2_with (go_at_call 25; refine (nan_calls _).mono ?_; rintro e w' ⟨rfl, ⟨nd, rfl⟩⟩)
        go_ret
        exact ⟨by rw [HN.out]; rfl, by repeat (first | exact Drawn0.refl _ | apply Drawn0.step)⟩
      · replace hn : isNaN b = false := Bool.eq_false_iff.mpr hn
        have hord : (FloatKind.f64.format.order b b != some .eq) = false := by
          show (Ieee.double.order b b != some .eq) = false
          rw [order_self hn]; decide
        have HN : Aside0 ((sumF l).getD 9221120237041090561 = b) := ⟨by
          have h := HS.out
          rw [HT.out] at h
          cases hs : sumF l with
          | none => rw [hs] at h; exact absurd (show isNaN b = true from h) (by rw [hn]; decide)
          | some a => rw [hs] at h; exact (show b = a from h).symm⟩
        clear hn HS
        go_wp2
        go_ret
        exact ⟨by rw [HN.out]; rfl, by repeat (first | exact Drawn0.refl _ | apply Drawn0.step)⟩
end Go.Proofs.Ytjppanekddljbaa.H
