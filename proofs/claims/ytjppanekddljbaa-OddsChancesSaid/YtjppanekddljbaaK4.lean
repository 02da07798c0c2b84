/- OddsChances returns true whatever the input, and the input reads as it did. Conditions: none but those of the given row (part 4) -/
import Derived.Test.YtjppanekddljbaaK3
set_option linter.unusedVariables false
set_option linter.unusedSimpArgs false
/- odds.Total: the Go code answers the sum of the floats, from the first on. -/
namespace Go.Proofs.Ytjppanekddljbaa.H
open Go.RowKit Go.Proofs.Ytjppanekddljbaa.Pr Go.Proofs.YtjppanekddljbaaW.PrintWords Go.Proofs.YtjppanekddljbaaW.PrintLast Go.Proofs.YtjppanekddljbaaW.PrintMore
open Go.Proofs.Ytjppanekddljbaa.Fl
def kf : Kd Nat := Kd.scalar (Value.float .f64) (fun _ => rfl)
theorem info25 : (Try.prog.info? 25).map (fun i => (i.zero, i.size, i.bytes)) = some (some (.float .f64 0), 1, 8) := by kernel_rfl
theorem at_f {w : World} {A : Option Addr} {n : Nat} {xs : List Nat} (h : kf.C w A n xs) (i : Int) (h0 : 0 ≤ i) (h1 : i < n) : ∃ ad, A = some ad ∧ w.cell? (ad.add i.toNat) = some (.float .f64 (xs.getD i.toNat 0)) := by
  have h' := Kd.reads_of_C (d := 0) h
  obtain ⟨ad, e, hc⟩ := h'.2.2 (by omega)
  exact ⟨ad, e, by simpa using hc i.toNat (by omega)⟩
theorem run_add_ok {x y r : Nat} (h : Ieee.double.add x y = some r) (t : TypeId) (w : World) : (binOp .add t (.float .f64 x) (.float .f64 y)).run Try.prog w = .ok (.float .f64 r) w := run_float_arith w .add t .f64 x y r h
theorem run_add_nan {x y : Nat} (h : Ieee.double.add x y = none) (t : TypeId) (w : World) : ∃ b, isNaN b = true ∧ (binOp .add t (.float .f64 x) (.float .f64 y)).run Try.prog w = .ok (.float .f64 b) w.drew := by
  refine ⟨(Question.nanBits .f64 x y).cut (w.tape w.drawn (.nanBits .f64 x y)), nan_cut _, ?_⟩
  have h' : FloatKind.f64.format.add x y = none := h
  simp only [binOp, Op.floatArith, h']
  simp [run_choose_drew, Question.forced]
/-- the sum of a list, from nought on; none: it is no number -/
def sumF (l : List Nat) : Option Nat := l.foldl (fun a x => a.bind fun a => Ieee.double.add a x) (some 0)
theorem sumF_snoc (l : List Nat) (x : Nat) : sumF (l ++ [x]) = (sumF l).bind fun a => Ieee.double.add a x := by simp [sumF]
theorem sumF_not_nan {l : List Nat} {a : Nat} (h : sumF l = some a) : isNaN a = false := by
  rcases List.eq_nil_or_concat l with rfl | ⟨l', x, rfl⟩
  · obtain rfl := Option.some.inj h; decide
  · rw [List.concat_eq_append, sumF_snoc] at h
    obtain ⟨b, _, hb⟩ := Option.bind_eq_some_iff.1 h
    exact add_not_nan hb
/-- what stands for a sum in the machine: the sum, or some NaN -/
def Stands (s : Option Nat) (b : Nat) : Prop := match s with | some a => b = a | none => isNaN b = true
theorem stands_nan {s : Option Nat} {b : Nat} (h : Stands s b) (hn : isNaN b = true) (hs : ∀ a, s = some a → isNaN a = false) : s = none := by
  cases s with
  | none => rfl
  | some a => exact absurd hn (by rw [show b = a from h, hs a rfl]; decide)
theorem run_add_stands {s : Option Nat} {b x : Nat} (h : Stands s b) (t : TypeId) (w : World) :
    ∃ b' w', Drawn0 w w' ∧ Stands (s.bind fun a => Ieee.double.add a x) b' ∧ (binOp .add t (.float .f64 b) (.float .f64 x)).run Try.prog w = .ok (.float .f64 b') w' := by
  have none_case : Ieee.double.add b x = none → ∃ b' w', Drawn0 w w' ∧ isNaN b' = true ∧ (binOp .add t (.float .f64 b) (.float .f64 x)).run Try.prog w = .ok (.float .f64 b') w' := fun hn => by
    obtain ⟨b', h1, h2⟩ := run_add_nan hn t w
    exact ⟨b', _, ⟨1, rfl⟩, h1, h2⟩
  cases s with
  | none => exact none_case (add_nan_left h)
  | some a =>
    obtain rfl : b = a := h
    cases hb : Ieee.double.add b x with
    | none =>
      obtain ⟨b', w', h1, h2, h3⟩ := none_case hb
      exact ⟨b', w', h1, by simp only [hb, Option.bind_some]; exact h2, h3⟩
    | some r => exact ⟨r, w, Drawn0.refl _, by simp [hb, Stands], run_add_ok hb t w⟩
set_option maxHeartbeats 1000000 in
theorem total_calls (A : Option Addr) (c : Nat) (l : List Nat) (w : World) (hr : kf.C w A l.length l) (hc : l.length ≤ c) :
    Calls Try.prog 15 #[.slice A l.length c] w fun e w' => e = .returned (.float .f64 ((sumF l).getD 9221120237041090561)) ∧ Drawn0 w w' := by
  have hmax : l.length ≤ 9223372036854775807 := hr.2.1
  have HR := Aside0.mk hr
  clear hr
  go_enter Try.func15, Try.ntmps15
  go_wp2
  go_loopg [3, 8] l.length (fun kq v3 v8 w' => ∃ (i : Nat) (b : Nat), v8 = .int .i64 i ∧ v3 = .float .f64 b ∧ Aside0 (kq = l.length - i) ∧ i ≤ l.length ∧ Aside0 (Stands (sumF (l.take i)) b) ∧ Drawn0 w w')
  case atStart => exact ⟨0, 0, rfl, rfl, ⟨by omega⟩, by omega, ⟨rfl⟩, Drawn0.refl _⟩
  case round =>
    obtain ⟨i, b, rfl, rfl, HK, hi, HS, ⟨m, rfl⟩⟩ := hrel
    by_cases hlt : i < l.length
    · obtain ⟨ad, e, hx⟩ := at_f HR.out (i : Int) (by omega) (by omega)
      cases e
      simp only [Int.toNat_natCast] at hx
      obtain ⟨x, hxx⟩ : ∃ x, l.getD i 0 = x := ⟨_, rfl⟩
      rw [hxx] at hx
      obtain ⟨b', w2, ⟨n, hw2⟩, hs2, hadd⟩ := run_add_stands (x := x) HS.out 25 (w.drewN m)
      have hsn : (sumF (l.take (i + 1))) = (sumF (l.take i)).bind fun a => Ieee.double.add a x := by
        rw [List.take_succ_eq_append_getElem hlt, sumF_snoc, ← hxx]
        simp [List.getD, hlt]
      clear hxx
      rw [← hsn] at hs2
      have HS2 := Aside0.mk hs2
      clear hs2 hsn HS
      subst hw2
      simp only [World.drewN_drewN] at hadd
      go_wp2
      go_roundg (l.length - (i + 1))
      case measure => have := HK.out; omega
      case rel => exact ⟨i + 1, b', by go_num, rfl, ⟨rfl⟩, by omega, HS2, Drawn0.step (Drawn0.refl _) _⟩
    · have HT : Aside0 (l.take i = l) := ⟨List.take_of_length_le (by omega)⟩
      by_cases hn : isNaN b = true
      · have hord : (FloatKind.f64.format.order b b != some .eq) = true := by
          show (Ieee.double.order b b != some .eq) = true
          rw [order_nan_left hn]; decide
        have HN : Aside0 (sumF l = none) := ⟨stands_nan (HT.out ▸ HS.out) hn (fun a h => sumF_not_nan h)⟩
        clear hn HS
        go_wp2_with (go_at_call 25; refine (nan_calls _).mono ?_; rintro e w' ⟨rfl, ⟨nd, rfl⟩⟩)
        go_ret
        exact ⟨by rw [HN.out]; rfl, by repeat (first | exact Drawn0.refl _ | apply Drawn0.step)⟩
      · replace hn : isNaN b = false := Bool.eq_false_iff.mpr hn
        have hord : (FloatKind.f64.format.order b b != some .eq) = false := by
          show (Ieee.double.order b b != some .eq) = false
          rw [order_self hn]; decide
        have HN : Aside0 ((sumF l).getD 9221120237041090561 = b) := ⟨by
          have h := HS.out
          rw [HT.out] at h
          cases hs : sumF l with
          | none => rw [hs] at h; exact absurd (show isNaN b = true from h) (by rw [hn]; decide)
          | some a => rw [hs] at h; exact (show b = a from h).symm⟩
        clear hn HS
        go_wp2
        go_ret
        exact ⟨by rw [HN.out]; rfl, by repeat (first | exact Drawn0.refl _ | apply Drawn0.step)⟩
end Go.Proofs.Ytjppanekddljbaa.H
/- The law's floats and bias.At: what the Go code computes. -/
namespace Go.Proofs.Ytjppanekddljbaa.H
open Go.RowKit Go.Proofs.Ytjppanekddljbaa.Pr Go.Proofs.YtjppanekddljbaaW.PrintWords Go.Proofs.YtjppanekddljbaaW.PrintLast Go.Proofs.YtjppanekddljbaaW.PrintMore
open Go.Proofs.Ytjppanekddljbaa.Fl
set_option maxHeartbeats 1000000 in
theorem floats_calls (A : Option Addr) (c : Nat) (l : List Int) (w : World) (hr : Kd.C (Kd.int .u64) w A l.length l) (hc : l.length ≤ c) (hl : l.length ≤ 17592186044416) :
    Calls Try.prog 9 #[.slice A l.length c] w fun e w' => ∃ v0_ : Value, e = .returned v0_ ∧ Kd.R kf 25 w' w.heap.size (fun _ => True) v0_ (l.map Int.toNat) ∧ Below w.heap.size w w' := by
  have HR := Aside0.mk hr
  have HBIG := Aside0.mk hl
  have hmax : l.length ≤ 9223372036854775807 := hr.2.1
  clear hr hl
  have hfb := run_frombits
  go_enter Try.func9, Try.ntmps9
  go_wp2
  go_loopg [3, 7] l.length (fun kq v3 v7 w' => ∃ (i : Nat) (xs : List Nat), v7 = .int .i64 i ∧ Aside0 (kq = l.length - i) ∧ i ≤ l.length ∧ Aside0 (xs = (l.take i).map Int.toNat) ∧ Aside0 (Kd.R kf 25 w' w.heap.size (fun _ => True) v3 xs) ∧ Aside0 (Below w.heap.size w w'))
  case atStart => exact ⟨0, [], rfl, ⟨by omega⟩, by omega, ⟨rfl⟩, ⟨Kd.R_nil _ _ _ _ _⟩, ⟨Below.refl _ _⟩⟩
  case round =>
    obtain ⟨i, xs, rfl, HK, hi, HX, HO, HB⟩ := hrel
    by_cases hlt : i < l.length
    · obtain ⟨ad, e, hx⟩ := Kd.at_int HR.out (i : Int) (by omega) (by omega)
      cases e
      replace hx := (HB.out.cell (World.block_lt_of_cell? w _ hx)).trans hx
      simp only [Int.toNat_natCast] at hx
      obtain ⟨x, hxx⟩ : ∃ x, rd l i = x := ⟨_, rfl⟩
      rw [hxx] at hx
      have HX2 : Aside0 (xs ++ [x.toNat] = (l.take (i + 1)).map Int.toNat) := ⟨by
        rw [HX.out, List.take_succ_eq_append_getElem hlt, List.map_append, ← hxx]
        simp [rd, List.getD, hlt]⟩
      have HXL : Aside0 (xs.length = i) := ⟨by rw [HX.out]; simp; omega⟩
      clear hxx HX
      go_wp2_with (first
        | ((with_reducible refine gate_builtin (b := .append) (xs := #[.tmp 10, .tmp 16]) rfl ?_); at_builtin; refine Kd.R_append kf (w0 := w) w.heap.size rfl (.tmp 10) (.tmp 16) 29 25 (.float .f64 0) 8 rfl Try.underlying29 info25 rfl (by decide) (by omega) u3 xs x.toNat [.float .f64 x.toNat] (fun _ => True) (fun _ => False) rfl rfl ?aP (fun _ hk => hk.elim) ?aF ?aO ?aB ?aS ?aL ?_; (case aP => exact rfl); (case aB => exact (by repeat (first | (with_reducible first | exact HB.out | apply below_alloc | apply pw_below_drewN | apply below_drew1) | exact HB.out))); (case aF => exact (fun _ _ => trivial)); (case aO => exact (by (with_reducible repeat (first | apply Kd.R_alloc | apply Kd.R_drewN | apply Kd.R_drew)); exact HO.out)); (case aS => exact (below_size (by repeat (first | (with_reducible first | exact HB.out | apply below_alloc | apply pw_below_drewN | apply below_drew1) | exact HB.out)))); (case aL => have := HBIG.out; have := HXL.out; omega); intro v1 w1 ho hb hg hat; have HO1 := Aside0.mk ho; have HB1 := Aside0.mk hb; clear ho hb hg hat HB HO))
      go_roundg (l.length - (i + 1))
      case measure => have := HK.out; omega
      case rel => exact ⟨i + 1, xs ++ [x.toNat], by go_num, ⟨rfl⟩, by omega, HX2, HO1, HB1⟩
    · have HT : Aside0 (xs = l.map Int.toNat) := ⟨by rw [HX.out, List.take_of_length_le (by omega)]⟩
      go_wp2
      go_ret
      exact ⟨_, rfl, by rw [← HT.out]; exact HO.out, HB.out⟩
/-- NaN made one. -/
def oneF (b : Nat) : Nat := if isNaN b = true then 9221120237041090561 else b
def atF (ws : List Nat) (turn i : Int) : Nat :=
  if ws.length = 0 ∨ turn < 0 ∨ i < 0 then 0 else oneF (ws.getD ((turn % ws.length + i % ws.length) % ws.length).toNat 0)
set_option maxHeartbeats 1000000 in
theorem at_calls (A : Option Addr) (c : Nat) (l : List Nat) (turn i : Int) (w : World) (hr : kf.C w A l.length l) (hc : l.length ≤ c) (hl : l.length ≤ 4611686018427387904) (ht : turn ≤ 9223372036854775807) (hi : i ≤ 9223372036854775807) :
    Calls Try.prog 48 #[.slice A l.length c, .int .i64 turn, .int .i64 i] w fun e w' => e = .returned (.float .f64 (atF l turn i)) ∧ Drawn0 w w' := by
  have HR := Aside0.mk hr
  clear hr
  by_cases h0 : l.length = 0
  · have h0b : ((l.length : Int) == 0) = true := beq_iff_eq.mpr (by omega)
    have HE : Aside0 (atF l turn i = 0) := ⟨by rw [atF, if_pos (.inl h0)]⟩
    clear h0
    go_enter Try.func48, Try.ntmps48
    go_wp2
    go_ret
    exact ⟨by rw [HE.out]; rfl, Drawn0.refl _⟩
  · have h0b : ((l.length : Int) == 0) = false := beq_eq_false_iff_ne.mpr (by omega)
    by_cases h1 : turn < 0
    · have HE : Aside0 (atF l turn i = 0) := ⟨by rw [atF, if_pos (.inr (.inl h1))]⟩
      have h1b : decide (turn < 0) = true := decide_eq_true h1
      clear h0 h1
      go_enter Try.func48, Try.ntmps48
      go_wp2
      go_ret
      exact ⟨by rw [HE.out]; rfl, Drawn0.refl _⟩
    · have h1b : decide (turn < 0) = false := decide_eq_false h1
      by_cases h2 : i < 0
      · have HE : Aside0 (atF l turn i = 0) := ⟨by rw [atF, if_pos (.inr (.inr h2))]⟩
        have h2b : decide (i < 0) = true := decide_eq_true h2
        clear h0 h1 h2
        go_enter Try.func48, Try.ntmps48
        go_wp2
        go_ret
        exact ⟨by rw [HE.out]; rfl, Drawn0.refl _⟩
      · have h2b : decide (i < 0) = false := decide_eq_false h2
        obtain ⟨j, hj⟩ : ∃ j : Int, (turn % l.length + i % l.length) % l.length = j := ⟨_, rfl⟩
        have hj0 : 0 ≤ j := by rw [← hj]; exact Int.emod_nonneg _ (by omega)
        have hj1 : j < l.length := by rw [← hj]; exact Int.emod_lt_of_pos _ (by omega)
        obtain ⟨ad, e, hx⟩ := at_f HR.out j hj0 hj1
        cases e
        obtain ⟨x, hxx⟩ : ∃ x, l.getD j.toNat 0 = x := ⟨_, rfl⟩
        rw [hxx] at hx
        have HE : Aside0 (atF l turn i = oneF x) := ⟨by rw [atF, if_neg (by omega), hj, hxx]⟩
        have hm1 : 0 ≤ turn % (l.length : Int) := Int.emod_nonneg _ (by omega)
        have hm2 : turn % (l.length : Int) < l.length := Int.emod_lt_of_pos _ (by omega)
        have hm3 : 0 ≤ i % (l.length : Int) := Int.emod_nonneg _ (by omega)
        have hm4 : i % (l.length : Int) < l.length := Int.emod_lt_of_pos _ (by omega)
        have hn0 : (1 : Int) ≤ l.length := by omega
        clear hxx
        by_cases hn : isNaN x = true
        · have hord : (FloatKind.f64.format.order x x != some .eq) = true := by
            show (Ieee.double.order x x != some .eq) = true
            rw [order_nan_left hn]; decide
          have HN : Aside0 (oneF x = 9221120237041090561) := ⟨if_pos hn⟩
          clear hn
          go_enter Try.func48, Try.ntmps48
          go_wp2
          go_quiet (fail)
          go_wp2_with (go_at_call 25; refine (nan_calls _).mono ?_; rintro e w' ⟨rfl, ⟨nd, rfl⟩⟩)
          go_ret
          exact ⟨by rw [HE.out, HN.out]; rfl, by repeat (first | exact Drawn0.refl _ | apply Drawn0.step)⟩
        · replace hn : isNaN x = false := Bool.eq_false_iff.mpr hn
          have hord : (FloatKind.f64.format.order x x != some .eq) = false := by
            show (Ieee.double.order x x != some .eq) = false
            rw [order_self hn]; decide
          have HN : Aside0 (oneF x = x) := ⟨if_neg (by rw [hn]; decide)⟩
          clear hn
          go_enter Try.func48, Try.ntmps48
          go_wp2
          go_quiet (fail)
          go_wp2
          go_ret
          exact ⟨by rw [HE.out, HN.out]; rfl, by repeat (first | exact Drawn0.refl _ | apply Drawn0.step)⟩
end Go.Proofs.Ytjppanekddljbaa.H
/- What the kit's print wrote for these functions, taken together by wip/pick.py: each function's Lean function and that the Go code comes to it. -/
namespace Go.Proofs.Ytjppanekddljbaa.Pr
open Go.RowKit Go.Proofs.YtjppanekddljbaaW.PrintWords Go.Proofs.YtjppanekddljbaaW.PrintLast Go.Proofs.YtjppanekddljbaaW.PrintMore
attribute [local go_sem] max2_int min2_int max_two min_two max_three min_three max_four min_four
def sibylref21_Total.l0 : Nat → List Int → Int → Int → Option (Int)
  | 0, _, _, _ => none
  | k + 1, x0, x3, x4 => if x4 < (x0.length : Int) then (if 0 ≤ x4 then ((sibylref21_Add.f k x3 (rd x0 x4)).bind fun t425 => (sibylref21_Total.l0 k x0 t425 (wrap64 (x4 + 1)))) else (none)) else (some x3)
def sibylref21_Total.f (k : Nat) (l0 : List Int) : Option (Int) := sibylref21_Total.l0 k l0 0 0
end Go.Proofs.Ytjppanekddljbaa.Pr
/- Floats by their bits: their order, from nought on. -/
namespace Go.Proofs.Ytjppanekddljbaa.Fl
open Ieee
theorem magOf_lt (r : Nat) : magOf r < 9007199254740992 := by
  unfold magOf
  have := Nat.mod_lt r (show 0 < 4503599627370496 by decide)
  split <;> omega
theorem rung_eq (r : Nat) : r = expOf r * 4503599627370496 + magOf r := by
  unfold expOf magOf
  have h := Nat.div_add_mod r 4503599627370496
  by_cases h1 : r < 4503599627370496
  · rw [if_pos h1, Nat.div_eq_of_lt h1]; omega
  · rw [if_neg h1]
    have : 1 ≤ r / 4503599627370496 := by omega
    obtain ⟨q, hq⟩ : ∃ q, r / 4503599627370496 = q + 1 := ⟨r / 4503599627370496 - 1, by omega⟩
    rw [hq] at h ⊢
    omega
theorem mag_ge {r : Nat} (h : 0 < expOf r) : 4503599627370496 ≤ magOf r := by
  unfold expOf at h
  unfold magOf
  split <;> omega
/-- a rung's value, in units of the least -/
def valOf (r : Nat) : Nat := magOf r * 2 ^ expOf r
theorem pow_lt_of {a b : Nat} (h : a < b) : 2 * 2 ^ a ≤ 2 ^ b := by
  rw [Nat.mul_comm, ← Nat.pow_succ]
  exact Nat.pow_le_pow_right (by decide) h
theorem val_lt {r s : Nat} (h : r < s) : valOf r < valOf s := by
  have e1 := rung_eq r
  have e2 := rung_eq s
  have m1 := magOf_lt r
  have m2 := magOf_lt s
  unfold valOf
  rcases Nat.lt_trichotomy (expOf r) (expOf s) with hl | he | hg
  · have g := mag_ge (r := s) (by omega)
    have p := pow_lt_of hl
    have p0 : 0 < 2 ^ expOf r := Nat.two_pow_pos _
    calc magOf r * 2 ^ expOf r < 9007199254740992 * 2 ^ expOf r := Nat.mul_lt_mul_of_pos_right m1 p0
      _ = 4503599627370496 * (2 * 2 ^ expOf r) := by omega
      _ ≤ 4503599627370496 * 2 ^ expOf s := Nat.mul_le_mul_left _ p
      _ ≤ magOf s * 2 ^ expOf s := Nat.mul_le_mul_right _ g
  · rw [he]
    rw [he] at e1
    exact Nat.mul_lt_mul_of_pos_right (by omega) (Nat.two_pow_pos _)
  · exfalso
    have g := mag_ge (r := r) (by omega)
    have : (expOf s + 1) * 4503599627370496 ≤ expOf r * 4503599627370496 := Nat.mul_le_mul_right _ hg
    omega
theorem val_compare (r s : Nat) : compare (valOf r : Int) (valOf s : Int) = compare r s := by
  rcases Nat.lt_trichotomy r s with h | h | h
  · have := val_lt h
    rw [Nat.compare_eq_lt.2 h]
    exact Int.compare_eq_lt.2 (by omega)
  · subst h
    rw [Nat.compare_eq_eq.2 rfl]
    exact Int.compare_eq_eq.2 rfl
  · have := val_lt h
    rw [Nat.compare_eq_gt.2 h]
    exact Int.compare_eq_gt.2 (by omega)
theorem cmp_scale {a b : Int} {k : Nat} (hk : 0 < k) : compare (a * k) (b * k) = compare a b := by
  have hk' : (0 : Int) < (k : Int) := by omega
  rcases Int.lt_trichotomy a b with h | h | h
  · rw [Int.compare_eq_lt.2 h]; exact Int.compare_eq_lt.2 (Int.mul_lt_mul_of_pos_right h hk')
  · subst h; exact (Int.compare_eq_eq.2 rfl).trans (Int.compare_eq_eq.2 rfl).symm
  · rw [Int.compare_eq_gt.2 h]; exact Int.compare_eq_gt.2 (Int.mul_lt_mul_of_pos_right h hk')
theorem fin_pos {x : Nat} (h : x < INF) : double.read x = .number false (magOf x) (-1074 + (expOf x : Nat)) := by
  unfold INF at h
  have h0 : x % 9223372036854775808 = x := Nat.mod_eq_of_lt (by omega)
  have h1 : x / 9223372036854775808 = 0 := Nat.div_eq_of_lt (by omega)
  rw [read_fin x (by omega), h0, h1]
  rfl
theorem inf_pos : double.read INF = .infinity false := by decide
theorem shl_val (x : Nat) (b : Int) (hb : b ≤ -1074 + (expOf x : Nat)) (hb0 : -1074 ≤ b) :
    signed false (magOf x) (-1074 + (expOf x : Nat) - b).toNat * ((2 ^ (b + 1074).toNat : Nat) : Int) = (valOf x : Int) := by
  unfold signed valOf
  simp only [Bool.false_eq_true, if_false, Nat.shiftLeft_eq]
  rw [← Int.natCast_mul, Nat.mul_assoc, ← Nat.pow_add]
  congr 3
  omega
theorem order_pos {x y : Nat} (hx : x ≤ INF) (hy : y ≤ INF) : double.order x y = some (compare x y) := by
  unfold Format.order
  by_cases h1 : x < INF
  · by_cases h2 : y < INF
    · rw [fin_pos h1, fin_pos h2]
      simp only [Datum.order]
      congr 1
      obtain ⟨b, hbb⟩ : ∃ b : Int, min (-1074 + (expOf x : Nat) : Int) (-1074 + (expOf y : Nat)) = b := ⟨_, rfl⟩
      rw [hbb]
      have e1 := shl_val x b (by omega) (by omega)
      have e2 := shl_val y b (by omega) (by omega)
      rw [← cmp_scale (k := 2 ^ (b + 1074).toNat) (Nat.two_pow_pos _), e1, e2]
      exact val_compare x y
    · obtain rfl : y = INF := by omega
      rw [fin_pos h1, inf_pos]
      simp only [Datum.order]
      rw [Nat.compare_eq_lt.2 h1]; rfl
  · obtain rfl : x = INF := by omega
    by_cases h2 : y < INF
    · rw [fin_pos h2, inf_pos]
      simp only [Datum.order]
      rw [Nat.compare_eq_gt.2 h2]; rfl
    · obtain rfl : y = INF := by omega
      rw [inf_pos]
      simp only [Datum.order]
      rw [Nat.compare_eq_eq.2 rfl]; rfl
/-- a weight's worth -/
def worthF (x : Nat) : Nat := if x ≤ INF then x else 0
theorem gt_zero {x : Nat} (h : x < 18446744073709551616) : (double.order x 0 == some .gt) = decide (0 < x ∧ x ≤ INF) := by
  by_cases h1 : x ≤ INF
  · rw [order_pos h1 (by decide)]
    rcases Nat.eq_zero_or_pos x with h0 | h0
    · subst h0; decide
    · rw [Nat.compare_eq_gt.2 h0]; simp [h0, h1]
  · rw [show decide (0 < x ∧ x ≤ INF) = false from decide_eq_false (fun h => h1 h.2)]
    unfold INF at h1
    by_cases hn : isNaN x = true
    · rw [order_nan_left hn]; rfl
    · replace hn : isNaN x = false := Bool.eq_false_iff.mpr hn
      have hs : (x / 9223372036854775808 % 2 == 1) = true := by
        unfold isNaN at hn
        simp only [decide_eq_false_iff_not] at hn
        rw [beq_iff_eq]
        omega
      unfold isNaN at hn
      simp only [decide_eq_false_iff_not] at hn
      unfold Format.order
      rw [show double.read 0 = .number false 0 (-1074) from by decide]
      by_cases hf : x % 9223372036854775808 < 9218868437227405312
      · rw [read_fin x hf, hs]
        simp only [Datum.order]
        have a : signed true (magOf (x % 9223372036854775808)) (-1074 + (expOf (x % 9223372036854775808) : Nat) - min (-1074 + (expOf (x % 9223372036854775808) : Nat) : Int) (-1074)).toNat ≤ 0 := by
          unfold signed
          simp only [if_true]
          exact Int.neg_nonpos_of_nonneg (Int.natCast_nonneg _)
        have b : signed false 0 ((-1074 : Int) - min (-1074 + (expOf (x % 9223372036854775808) : Nat) : Int) (-1074)).toNat = 0 := by
          unfold signed
          simp
        rw [b]
        rcases Int.lt_or_eq_of_le a with a | a
        · rw [Int.compare_eq_lt.2 a]; rfl
        · rw [a]; decide
      · rw [read_inf x (by omega), hs]
        rfl
theorem worthF_eq {x : Nat} (h : x < 18446744073709551616) : (if (double.order x 0 == some .gt) = true then x else 0) = worthF x := by
  rw [gt_zero h]
  unfold worthF
  by_cases h1 : x ≤ INF
  · rw [if_pos h1]
    rcases Nat.eq_zero_or_pos x with h0 | h0
    · subst h0; simp
    · simp [h0, h1]
  · rw [if_neg h1]; simp [h1]
theorem worthF_le (x : Nat) : worthF x ≤ INF := by unfold worthF; split <;> first | assumption | decide
/-- greater than the greatest float: an infinity -/
theorem gt_max {x : Nat} (h : x ≤ INF) : (double.order x 9218868437227405311 == some .gt) = decide (x = INF) := by
  rw [order_pos h (by decide)]
  by_cases e : x = INF
  · subst e; decide
  · have hl : x < INF := by omega
    unfold INF at hl e
    have : x = 9218868437227405311 ∨ x < 9218868437227405311 := by omega
    rcases this with rfl | h2
    · decide
    · rw [Nat.compare_eq_lt.2 h2]
      simp [INF, e]
theorem eq_zero {x : Nat} (h : x ≤ INF) : (double.order x 0 == some .eq) = decide (x = 0) := by
  rw [order_pos h (by decide)]
  rcases Nat.eq_zero_or_pos x with h0 | h0
  · subst h0; decide
  · rw [Nat.compare_eq_gt.2 h0]; simp; omega
/-- quotients of floats from nought on -/
theorem div_one {y : Nat} (hy : y ≤ INF) : ∃ r, double.div ONE y = some r ∧ r ≤ INF := by
  unfold Format.div
  rw [show double.read ONE = .number false 4503599627370496 (-52) from by decide]
  rcases read_pos hy with ⟨n, f, g⟩ | g <;> rw [g] <;> simp only [Datum.quotient]
  · by_cases hn : n = 0
    · rw [if_pos hn, if_neg (by decide)]
      exact ⟨_, rfl, by decide⟩
    · rw [if_neg hn]
      refine ⟨_, rfl, ?_⟩
      obtain ⟨r, hr, he⟩ := nearest_rung false (2 * (4503599627370496 <<< (double.fractionBits + 2 + n.log2 - Nat.log2 4503599627370496) / n) + (4503599627370496 <<< (double.fractionBits + 2 + n.log2 - Nat.log2 4503599627370496) % n != 0).toNat) (-52 - f - (double.fractionBits + 2 + n.log2 - Nat.log2 4503599627370496 : Nat) - 1)
      show double.nearest _ _ _ ≤ _
      rw [show (false ^^ false) = false from rfl, he]
      exact hr
  · exact ⟨_, rfl, by decide⟩
theorem div_fin {x y : Nat} (hx : x < INF) (hy : y ≤ INF) (h0 : y ≠ 0) : ∃ r, double.div x y = some r ∧ r ≤ INF := by
  unfold Format.div
  rw [fin_pos hx]
  by_cases h1 : y < INF
  · rw [fin_pos h1]
    have hm : magOf y ≠ 0 := by
      intro hz
      have := rung_eq y
      have : expOf y = 0 := by
        rcases Nat.eq_zero_or_pos (expOf y) with h | h
        · exact h
        · have := mag_ge h; omega
      omega
    simp only [Datum.quotient]
    rw [if_neg hm]
    refine ⟨_, rfl, ?_⟩
    show double.nearest _ _ _ ≤ _
    obtain ⟨r, hr, he⟩ := nearest_rung (false ^^ false) (2 * (magOf x <<< (double.fractionBits + 2 + (magOf y).log2 - (magOf x).log2) / magOf y) + (magOf x <<< (double.fractionBits + 2 + (magOf y).log2 - (magOf x).log2) % magOf y != 0).toNat) ((-1074 + (expOf x : Nat)) - (-1074 + (expOf y : Nat)) - (double.fractionBits + 2 + (magOf y).log2 - (magOf x).log2 : Nat) - 1)
    rw [he]
    exact hr
  · obtain rfl : y = INF := by omega
    rw [inf_pos]
    simp only [Datum.quotient]
    exact ⟨_, rfl, by decide⟩
end Go.Proofs.Ytjppanekddljbaa.Fl
/- What the reference's functions on bits answer: Bits, length, Parts. -/
namespace Go.Proofs.Ytjppanekddljbaa.Lb
open Go.RowKit Go.Proofs.Ytjppanekddljbaa.Pr Go.Proofs.YtjppanekddljbaaW.PrintWords Go.Proofs.YtjppanekddljbaaW.PrintLast Go.Proofs.YtjppanekddljbaaW.PrintMore
open Go.Proofs.Ytjppanekddljbaa.Fl
def size (n : Nat) : Nat := if n = 0 then 0 else n.log2 + 1
theorem size_half {n : Nat} (h : n ≠ 0) : size n = size (n / 2) + 1 := by
  unfold size
  rw [if_neg h]
  by_cases h2 : n / 2 = 0
  · rw [if_pos h2, show n = 1 by omega]; decide
  · rw [if_neg h2, Nat.log2_def n, if_pos (by omega)]
theorem tdiv2 (n : Nat) : Int.tdiv (n : Int) 2 = ((n / 2 : Nat) : Int) := rfl
theorem bits_loop : ∀ (m : Nat) (x c : Nat), x ≤ m → x < 4294967296 → c + size x ≤ 1000000000 →
    Ev (fun k => sibylref01_Bits.l0 k (c : Int) (x : Int)) ((c + size x : Nat) : Int) := by
  intro m
  induction m with
  | zero =>
    intro x c hx _ _
    rw [show x = 0 by omega]
    exact Ev.step (f := fun _ => some (c : Int)) (fun k => by simp only [sibylref01_Bits.l0]; rw [if_neg (by omega)]) (Ev.now _)
  | succ m ih =>
    intro x c hx hlt hc
    by_cases h0 : x = 0
    · subst h0
      exact Ev.step (f := fun _ => some (c : Int)) (fun k => by simp only [sibylref01_Bits.l0]; rw [if_neg (by omega)]) (Ev.now _)
    · have hs := size_half h0
      refine Ev.step (f := fun k => sibylref01_Bits.l0 k ((c + 1 : Nat) : Int) ((x / 2 : Nat) : Int)) (fun k => ?_) ?_
      · simp only [sibylref01_Bits.l0]
        rw [if_pos (by omega), w64 (by omega) (by omega), tdiv2, modB (by omega)]
        rfl
      · have := ih (x / 2) (c + 1) (by omega) (by omega) (by omega)
        rw [show c + size x = c + 1 + size (x / 2) by omega]
        exact this
theorem size_mul {a n : Nat} (h : a ≠ 0) : size (a * 2 ^ n) = size a + n := by
  induction n with
  | zero => simp
  | succ n ih =>
    have h1 : a * 2 ^ (n + 1) ≠ 0 := Nat.mul_ne_zero h (Nat.ne_of_gt (Nat.two_pow_pos _))
    rw [size_half h1, show a * 2 ^ (n + 1) / 2 = a * 2 ^ n by rw [Nat.pow_succ, ← Nat.mul_assoc, Nat.mul_div_cancel _ (by decide)], ih]
    omega
theorem size_div (n i : Nat) (h : n / 2 ^ i ≠ 0) : size n = size (n / 2 ^ i) + i := by
  induction i with
  | zero => simp
  | succ i ih =>
    have e : n / 2 ^ (i + 1) = n / 2 ^ i / 2 := by rw [Nat.pow_succ, Nat.div_div_eq_div_mul]
    rw [e] at h ⊢
    have h1 : n / 2 ^ i ≠ 0 := by omega
    have h2 := size_half h1
    have := ih h1
    omega
theorem size_lt (n : Nat) : n < 2 ^ size n := by
  unfold size
  by_cases h : n = 0
  · rw [if_pos h]; omega
  · rw [if_neg h]; exact Nat.lt_log2_self
theorem size_le_of_lt {n m : Nat} (h : n < 2 ^ m) : size n ≤ m := by
  unfold size
  by_cases h0 : n = 0
  · rw [if_pos h0]; omega
  · rw [if_neg h0]; exact (Nat.log2_lt h0).2 h
theorem size_ge {n : Nat} (h : n ≠ 0) : 2 ^ (size n - 1) ≤ n := by
  unfold size
  rw [if_neg h, Nat.add_sub_cancel]
  exact Nat.log2_self_le h
theorem bits_ev {a : List Nat} (ha : Lim a) (hla : a.length ≤ 1000000) : Ev (fun k => sibylref01_Bits.f k (U a)) ((size (val a) : Nat) : Int) := by
  unfold sibylref01_Bits.f
  refine Ev.bind (trim_ev ha hla) ?_
  have n1 := norm_len ha
  rw [U_length]
  by_cases h0 : val a = 0
  · rw [h0, norm_zero]
    exact Ev.congr (f := fun _ => some 0) (fun k => if_pos (by simp)) (Ev.now _)
  · obtain ⟨b, x, hb, hx⟩ : ∃ b x, norm (val a) = b ++ [x] ∧ x ≠ 0 := by
      rcases norm_last (val a) with h | h
      · have := val_norm (val a); rw [h] at this; exact absurd this.symm h0
      · exact h
    have hlen : (norm (val a)).length = b.length + 1 := by rw [hb]; simp
    have hxl : x < 4294967296 := lim_norm (val a) x (by rw [hb]; simp)
    have hgd : (norm (val a)).getD b.length 0 = x := by rw [hb, List.getD, List.getElem?_append_right (Nat.le_refl _)]; simp
    have hv : val a / 2 ^ (32 * b.length) = x := by
      have h1 := val_norm (val a)
      rw [hb, val_snoc, pow32] at h1
      have h2 : val b < 2 ^ (32 * b.length) := by
        rw [← pow32]
        exact val_lt (fun y hy => lim_norm (val a) y (by rw [hb]; simp [hy]))
      rw [← h1, Nat.add_mul_div_left _ _ (Nat.two_pow_pos _), Nat.div_eq_of_lt h2, Nat.zero_add]
    have hs := size_div (val a) (32 * b.length) (by rw [hv]; exact hx)
    rw [hv] at hs
    have hsx : size x ≤ 32 := size_le_of_lt (by simpa using hxl)
    refine Ev.congr (f := fun k => sibylref01_Bits.l0 k ((32 * b.length : Nat) : Int) (x : Int)) (fun k => ?_) ?_
    · rw [if_neg (by omega), if_pos (by rw [w64 (by omega) (by omega)]; omega), if_pos (by rw [w64 (by omega) (by omega)]; omega),
        show wrap64 (((norm (val a)).length : Int) - 1) = (b.length : Int) from by rw [w64 (by omega) (by omega)]; omega, rd_U, hgd, w64 (by omega) (by omega)]
      rfl
    · have := bits_loop x x (32 * b.length) (Nat.le_refl _) hxl (by omega)
      rw [hs, Nat.add_comm]
      exact this
theorem length_loop : ∀ (m : Nat) (x c : Nat), size x = m → x < 18446744073709551616 → c + size x ≤ 1000 →
    Ev (fun k => sibylref03_length.l0 k (x : Int) (c : Int)) ((c + size x : Nat) : Int) := by
  intro m
  induction m with
  | zero =>
    intro x c hx _ _
    have h0 : x = 0 := by
      refine Decidable.byContradiction fun h => ?_
      unfold size at hx; rw [if_neg h] at hx; omega
    subst h0
    exact Ev.step (f := fun _ => some (c : Int)) (fun k => by simp only [sibylref03_length.l0]; rw [if_neg (by omega)]) (Ev.now _)
  | succ m ih =>
    intro x c hx hlt hc
    have h0 : x ≠ 0 := fun h => by subst h; simp [size] at hx
    have hs := size_half h0
    refine Ev.step (f := fun k => sibylref03_length.l0 k ((x / 2 : Nat) : Int) ((c + 1 : Nat) : Int)) (fun k => ?_) ?_
    · simp only [sibylref03_length.l0]
      rw [if_pos (by omega), w64 (by omega) (by omega), tdiv2, wuN (by omega)]
      rfl
    · have := ih (x / 2) (c + 1) (by omega) (by omega) (by omega)
      rw [show c + size x = c + 1 + size (x / 2) by omega]
      exact this
theorem length_ev {x : Nat} (hx : x < 18446744073709551616) : Ev (fun k => sibylref03_length.f k (x : Int)) ((size x : Nat) : Int) := by
  have h1 : size x ≤ 64 := size_le_of_lt (by simpa using hx)
  have := length_loop (size x) x 0 rfl hx (by omega)
  rw [Nat.zero_add] at this
  exact this
theorem tmod63 (x : Nat) : Int.tmod (x : Int) 9223372036854775808 = ((x % 9223372036854775808 : Nat) : Int) := (Int.ofNat_tmod x 9223372036854775808).symm
theorem isNaN_ev (x : Nat) : sibylref03_IsNaN.f (x : Int) = some (isNaN x) := by
  unfold sibylref03_IsNaN.f sibylref03_Size.f isNaN
  rw [tmod63]
  simp only [Option.bind_some, Option.some.injEq]
  exact decide_eq_decide.2 (by omega)
end Go.Proofs.Ytjppanekddljbaa.Lb
/- Rounding to nearest, ties to even, plain. -/
namespace Go.Proofs.Ytjppanekddljbaa.Fl
open Ieee
/-- n / 2 ^ d, to the nearest whole number, ties to even -/
def rhe (n d : Nat) : Nat := n / 2 ^ d + (decide (2 ^ d < 2 * (n % 2 ^ d)) || (decide (2 ^ d = 2 * (n % 2 ^ d)) && decide (n / 2 ^ d % 2 = 1))).toNat
theorem rhe_zero (n : Nat) : rhe n 0 = n := by
  unfold rhe
  rw [Nat.pow_zero, Nat.mod_one, Nat.div_one]
  simp
theorem rhe_small {n d : Nat} (h : 2 * n < 2 ^ d) : rhe n d = 0 := by
  unfold rhe
  rw [Nat.div_eq_of_lt (by omega), Nat.mod_eq_of_lt (by omega)]
  rw [decide_eq_false (by omega), decide_eq_false (by omega)]
  rfl
theorem rhe_le (n d : Nat) : rhe n d ≤ n / 2 ^ d + 1 := by
  unfold rhe
  have : ∀ b : Bool, b.toNat ≤ 1 := fun b => by cases b <;> decide
  have := this (decide (2 ^ d < 2 * (n % 2 ^ d)) || (decide (2 ^ d = 2 * (n % 2 ^ d)) && decide (n / 2 ^ d % 2 = 1)))
  omega
theorem rhe_ge (n d : Nat) : n / 2 ^ d ≤ rhe n d := by unfold rhe; omega
theorem rhe_shift (n d k : Nat) : rhe (n * 2 ^ k) (d + k) = rhe n d := by
  unfold rhe
  have hk : 0 < 2 ^ k := Nat.two_pow_pos k
  rw [Nat.pow_add, Nat.mul_div_mul_right _ _ hk, Nat.mul_mod_mul_right]
  have e : 2 * (n % 2 ^ d * 2 ^ k) = 2 * (n % 2 ^ d) * 2 ^ k := by rw [Nat.mul_assoc]
  rw [e]
  congr 3
  · exact decide_eq_decide.2 (Nat.mul_lt_mul_right hk)
  · congr 1
    exact decide_eq_decide.2 ⟨fun h => Nat.eq_of_mul_eq_mul_right hk h, fun h => congrArg (· * 2 ^ k) h⟩
theorem cut_eq (neg : Bool) (n d : Nat) : Toward.even.cut neg n d = rhe n d := by
  have key : ∀ g, Toward.even.cut neg n g = (n / (1 <<< min g (n.log2 + 2))) + (decide (1 <<< min g (n.log2 + 2) < 2 * (n % (1 <<< min g (n.log2 + 2)))) || (1 <<< min g (n.log2 + 2) == 2 * (n % (1 <<< min g (n.log2 + 2))) && (n / (1 <<< min g (n.log2 + 2)) % 2 == 1))).toNat := fun g => rfl
  rw [key]
  rcases Nat.le_total d (n.log2 + 2) with h | h
  · rw [Nat.min_eq_left h, Nat.one_shiftLeft]
    unfold rhe
    rfl
  · rw [Nat.min_eq_right h, Nat.one_shiftLeft]
    have hl : n < 2 ^ (n.log2 + 1) := Nat.lt_log2_self
    have h2 : 2 ^ (n.log2 + 2) ≤ 2 ^ d := Nat.pow_le_pow_right (by decide) h
    have h3 : 2 ^ (n.log2 + 2) = 2 * 2 ^ (n.log2 + 1) := by rw [Nat.pow_succ, Nat.mul_comm]
    rw [rhe_small (n := n) (d := d) (by omega)]
    rw [Nat.div_eq_of_lt (by omega), Nat.mod_eq_of_lt (by omega)]
    rw [decide_eq_false (by omega)]
    have : (2 ^ (n.log2 + 2) == 2 * n) = false := by rw [beq_eq_false_iff_ne]; omega
    rw [this]
    rfl
/-- what is kept of mag / 2 ^ D -/
def keptOf (mag : Nat) (D : Int) : Nat := rhe (mag * 2 ^ (-D).toNat) D.toNat
theorem rhe_mul (a m : Nat) : rhe (a * 2 ^ m) m = a := by
  have := rhe_shift a 0 m
  rwa [Nat.zero_add, rhe_zero] at this
theorem kept_shift (mag k : Nat) (D : Int) : keptOf (mag * 2 ^ k) (D + k) = keptOf mag D := by
  unfold keptOf
  rcases Int.le_total 0 D with h | h
  · rw [show (-(D + k)).toNat = 0 by omega, show (-D).toNat = 0 by omega, Nat.pow_zero, Nat.mul_one, Nat.mul_one, show (D + k).toNat = D.toNat + k by omega]
    exact rhe_shift _ _ _
  · rw [show D.toNat = 0 by omega, rhe_zero]
    rcases Int.le_total 0 (D + k) with h2 | h2
    · rw [show (-(D + k)).toNat = 0 by omega, Nat.pow_zero, Nat.mul_one]
      have : mag * 2 ^ k = mag * 2 ^ (-D).toNat * 2 ^ (D + k).toNat := by
        rw [Nat.mul_assoc, ← Nat.pow_add]; congr 2; omega
      rw [this, rhe_mul]
    · rw [show (D + k).toNat = 0 by omega, rhe_zero, Nat.mul_assoc, ← Nat.pow_add]
      congr 2; omega
/-- the rung of mag * 2 ^ place -/
def lastOf (mag : Nat) (place : Int) : Int := max (place + mag.log2 - 52) (-1074)
def rn (mag : Nat) (place : Int) : Nat := if mag = 0 then 0 else min ((lastOf mag place + 1074).toNat * 4503599627370496 + keptOf mag (lastOf mag place - place)) 9218868437227405312
theorem nearest_eq (neg : Bool) (mag : Nat) (place : Int) : double.nearest neg mag place = if neg then 9223372036854775808 + rn mag place else rn mag place := by
  unfold Format.nearest rn
  simp only [Format.word, dsw, dinf, dbin, dleast, dfrac, cut_eq]
  by_cases h : mag = 0
  · rw [if_pos h, if_pos h]
  · rw [if_neg h, if_neg h]
    have e1 : (max (place + (mag.log2 : Int) - ((52 : Nat) : Int)) (-1074)) = lastOf mag place := rfl
    rw [e1]
    have e2 : (lastOf mag place - -1074).toNat = (lastOf mag place + 1074).toNat := by congr 1
    rw [e2, Nat.shiftLeft_eq]
    have e3 : (-(lastOf mag place - place)).toNat = (place - lastOf mag place).toNat := by congr 1; omega
    unfold keptOf
    rw [e3]
theorem log2_mul {mag : Nat} (h : mag ≠ 0) (k : Nat) : (mag * 2 ^ k).log2 = mag.log2 + k := by
  have hne : mag * 2 ^ k ≠ 0 := Nat.mul_ne_zero h (Nat.ne_of_gt (Nat.two_pow_pos _))
  rw [Nat.log2_eq_iff hne]
  have h1 := Nat.log2_self_le h
  have h2 := Nat.lt_log2_self (n := mag)
  rw [Nat.pow_add, show mag.log2 + k + 1 = (mag.log2 + 1) + k by omega, Nat.pow_add]
  exact ⟨Nat.mul_le_mul_right _ h1, Nat.mul_lt_mul_of_pos_right h2 (Nat.two_pow_pos _)⟩
theorem rn_shift (mag k : Nat) (place : Int) : rn (mag * 2 ^ k) place = rn mag (place + k) := by
  unfold rn
  by_cases h : mag = 0
  · subst h; simp
  · have hne : mag * 2 ^ k ≠ 0 := Nat.mul_ne_zero h (Nat.ne_of_gt (Nat.two_pow_pos _))
    rw [if_neg hne, if_neg h]
    have e : lastOf (mag * 2 ^ k) place = lastOf mag (place + k) := by
      unfold lastOf
      rw [log2_mul h]
      congr 1
      omega
    rw [e]
    have e2 : lastOf mag (place + k) - place = (lastOf mag (place + k) - (place + k)) + k := by omega
    rw [e2, kept_shift]
/-- what is left over only has to be told from nothing -/
def sticky (n s : Nat) : Nat := 2 * (n / 2 ^ s) + (n % 2 ^ s != 0).toNat
theorem rhe_sticky (n s e : Nat) (he : 1 ≤ e) : rhe (sticky n s) (e + 1) = rhe n (s + e) := by
  unfold rhe sticky
  have hs : 0 < 2 ^ s := Nat.two_pow_pos s
  obtain ⟨h, hh⟩ : ∃ h, 2 ^ e = 2 * h := ⟨2 ^ (e - 1), by rw [Nat.mul_comm, ← Nat.pow_succ]; congr 1; omega⟩
  have hhp : 0 < h := by have := Nat.two_pow_pos e; omega
  obtain ⟨q, hq⟩ : ∃ q, n / 2 ^ s = q := ⟨_, rfl⟩
  obtain ⟨r, hr⟩ : ∃ r, n % 2 ^ s = r := ⟨_, rfl⟩
  have hrl : r < 2 ^ s := by rw [← hr]; exact Nat.mod_lt _ hs
  have d1 : n / 2 ^ (s + e) = q / 2 ^ e := by rw [Nat.pow_add, ← Nat.div_div_eq_div_mul, hq]
  have m1 : n % 2 ^ (s + e) = (q % 2 ^ e) * 2 ^ s + r := by
    rw [Nat.pow_add, Nat.mod_mul, hq, hr, Nat.mul_comm]; omega
  rw [d1, m1, hq, hr]
  obtain ⟨b, hb⟩ : ∃ b, (r != 0).toNat = b := ⟨_, rfl⟩
  have hb2 : b = 0 ∧ r = 0 ∨ b = 1 ∧ 0 < r := by
    by_cases h0 : r = 0
    · subst h0; left; exact ⟨hb.symm, rfl⟩
    · right
      have : (r != 0) = true := by simpa using h0
      rw [this] at hb
      exact ⟨hb.symm, by omega⟩
  rw [hb]
  have d2 : (2 * q + b) / 2 ^ (e + 1) = q / 2 ^ e := by
    rw [Nat.pow_succ, Nat.mul_comm (2 ^ e), ← Nat.div_div_eq_div_mul]
    congr 1
    omega
  have m2 : (2 * q + b) % 2 ^ (e + 1) = 2 * (q % 2 ^ e) + b := by
    rw [Nat.pow_succ, Nat.mul_comm (2 ^ e), Nat.mod_mul]
    have a1 : (2 * q + b) % 2 = b := by omega
    have a2 : (2 * q + b) / 2 = q := by omega
    rw [a1, a2]; omega
  rw [d2, m2, Nat.pow_succ, hh]
  obtain ⟨Q, hQ⟩ : ∃ Q, q % (2 * h) = Q := ⟨_, rfl⟩
  have hP : 2 ^ (s + e) = 2 ^ s * (2 * h) := by rw [Nat.pow_add, hh]
  rw [hQ, hP]
  obtain ⟨P, hPP⟩ : ∃ P, 2 ^ s = P := ⟨_, rfl⟩
  rw [hPP] at hrl hs ⊢
  have e1 : 2 * (Q * P + r) = P * (2 * Q) + 2 * r := by rw [Nat.mul_add, Nat.mul_comm Q P, Nat.mul_left_comm]
  rw [e1]
  congr 3
  · -- strictly more than half
    refine decide_eq_decide.2 ?_
    rcases Nat.lt_trichotomy Q h with hlt | heq | hgt
    · constructor
      · intro hc; omega
      · intro hc
        have : P * (2 * Q) + P * 2 ≤ P * (2 * h) := by rw [← Nat.mul_add]; exact Nat.mul_le_mul_left _ (by omega)
        omega
    · subst heq; omega
    · constructor
      · intro _
        have : P * (2 * h) + P * 2 ≤ P * (2 * Q) := by rw [← Nat.mul_add]; exact Nat.mul_le_mul_left _ (by omega)
        omega
      · intro _; omega
  · congr 1
    refine decide_eq_decide.2 ?_
    rcases Nat.lt_trichotomy Q h with hlt | heq | hgt
    · have : P * (2 * Q) + P * 2 ≤ P * (2 * h) := by rw [← Nat.mul_add]; exact Nat.mul_le_mul_left _ (by omega)
      omega
    · subst heq; omega
    · have : P * (2 * h) + P * 2 ≤ P * (2 * Q) := by rw [← Nat.mul_add]; exact Nat.mul_le_mul_left _ (by omega)
      omega
theorem log2_div {n s : Nat} (h : n / 2 ^ s ≠ 0) : n.log2 = (n / 2 ^ s).log2 + s := by
  have hs : 0 < 2 ^ s := Nat.two_pow_pos s
  have hn : n ≠ 0 := fun h0 => by rw [h0, Nat.zero_div] at h; exact h rfl
  rw [Nat.log2_eq_iff hn]
  have h1 := Nat.log2_self_le h
  have h2 := Nat.lt_log2_self (n := n / 2 ^ s)
  rw [Nat.pow_add, show (n / 2 ^ s).log2 + s + 1 = ((n / 2 ^ s).log2 + 1) + s by omega, Nat.pow_add]
  exact ⟨(Nat.le_div_iff_mul_le hs).1 h1, (Nat.div_lt_iff_lt_mul hs).1 h2⟩
theorem log2_twice {q b : Nat} (h : q ≠ 0) (hb : b ≤ 1) : (2 * q + b).log2 = q.log2 + 1 := by
  rw [Nat.log2_eq_iff (by omega)]
  have h1 := Nat.log2_self_le h
  have h2 := Nat.lt_log2_self (n := q)
  rw [Nat.pow_succ, Nat.pow_succ 2 (q.log2 + 1)]
  omega
theorem rn_sticky {n s : Nat} (place : Int) (h : 2 ^ 53 ≤ n / 2 ^ s) : rn (sticky n s) (place + s - 1) = rn n place := by
  have hq : n / 2 ^ s ≠ 0 := fun h0 => by rw [h0] at h; simp at h
  have hb : (n % 2 ^ s != 0).toNat ≤ 1 := by cases (n % 2 ^ s != 0) <;> decide
  have hl := log2_div hq
  have hn : n ≠ 0 := fun h0 => by rw [h0, Nat.zero_div] at hq; exact hq rfl
  have hst : (sticky n s).log2 = (n / 2 ^ s).log2 + 1 := log2_twice hq hb
  have hs0 : sticky n s ≠ 0 := by unfold sticky; omega
  have h54 : 53 ≤ (n / 2 ^ s).log2 := (Nat.le_log2 hq).2 h
  unfold rn
  rw [if_neg hs0, if_neg hn]
  have e : lastOf (sticky n s) (place + s - 1) = lastOf n place := by
    unfold lastOf
    rw [hst, hl]
    congr 1
    omega
  rw [e]
  have hD : (n / 2 ^ s).log2 + s - 52 ≤ lastOf n place - place := by
    unfold lastOf
    rw [hl]
    omega
  unfold keptOf
  rw [show (-(lastOf n place - (place + s - 1))).toNat = 0 by omega, show (-(lastOf n place - place)).toNat = 0 by omega, Nat.pow_zero, Nat.mul_one, Nat.mul_one]
  have e2 := rhe_sticky n s ((lastOf n place - place).toNat - s) (by omega)
  rw [show s + ((lastOf n place - place).toNat - s) = (lastOf n place - place).toNat by omega] at e2
  rw [← e2]
  congr 3
  omega
end Go.Proofs.Ytjppanekddljbaa.Fl
/- What the reference's Parts and Join answer, over Ieee's words. -/
namespace Go.Proofs.Ytjppanekddljbaa.Lb
open Go.RowKit Go.Proofs.Ytjppanekddljbaa.Pr Go.Proofs.YtjppanekddljbaaW.PrintWords Go.Proofs.YtjppanekddljbaaW.PrintLast Go.Proofs.YtjppanekddljbaaW.PrintMore
open Go.Proofs.Ytjppanekddljbaa.Fl
theorem tmod2 (n : Nat) : Int.tmod (n : Int) 2 = ((n % 2 : Nat) : Int) := (Int.ofNat_tmod n 2).symm
theorem parts_loop (x : Int) : ∀ (n man : Nat) (e : Int), size man ≤ n → man ≠ 0 → man < 18446744073709551616 → -100000 ≤ e → e + size man ≤ 100000 →
    ∃ m t : Nat, man = m * 2 ^ t ∧ m % 2 = 1 ∧ Ev (fun k => sibylref03_Parts.l0 k x (man : Int) e) (decide (x ≥ 9223372036854775808), (m : Int), e + (t : Int), 0) := by
  intro n
  induction n with
  | zero =>
    intro man e hs h0
    have : size man = 0 := by omega
    unfold size at this
    rw [if_neg h0] at this
    omega
  | succ n ih =>
    intro man e hs h0 hlt he1 he2
    have hsz := size_half h0
    by_cases hodd : man % 2 = 1
    · refine ⟨man, 0, by simp, hodd, ?_⟩
      refine Ev.step (f := fun _ => some (decide (x ≥ 9223372036854775808), (man : Int), e, 0)) (fun k => ?_) ?_
      · simp only [sibylref03_Parts.l0]; rw [tmod2, if_neg (by omega)]
      · rw [show e + ((0 : Nat) : Int) = e by omega]; exact Ev.now _
    · obtain ⟨m, t, h1, h2, h3⟩ := ih (man / 2) (e + 1) (by omega) (by omega) (by omega) (by omega) (by omega)
      refine ⟨m, t + 1, by rw [Nat.pow_succ, ← Nat.mul_assoc, ← h1]; omega, h2, ?_⟩
      refine Ev.step (f := fun k => sibylref03_Parts.l0 k x ((man / 2 : Nat) : Int) (e + 1)) (fun k => ?_) ?_
      · simp only [sibylref03_Parts.l0]
        rw [tmod2, if_pos (by omega), tdiv2, wuN (by omega), w64 (by omega) (by omega)]
      · rw [show e + ((t + 1 : Nat) : Int) = e + 1 + (t : Int) by omega]; exact h3
theorem tmod52 (x : Nat) : Int.tmod (x : Int) 4503599627370496 = ((x % 4503599627370496 : Nat) : Int) := (Int.ofNat_tmod x 4503599627370496).symm
theorem size_le64 {x : Nat} (h : x < 18446744073709551616) : size x ≤ 64 := size_le_of_lt (by simpa using h)
theorem parts_ev {x : Nat} (hfin : x % 9223372036854775808 < 9218868437227405312) (h0 : x % 9223372036854775808 ≠ 0) :
    ∃ m t : Nat, magOf (x % 9223372036854775808) = m * 2 ^ t ∧ m % 2 = 1 ∧
      Ev (fun k => sibylref03_Parts.f k (x : Int)) (decide ((x : Int) ≥ 9223372036854775808), (m : Int), -1074 + (expOf (x % 9223372036854775808) : Nat) + (t : Int), 0) := by
  obtain ⟨r, hr⟩ : ∃ r, x % 9223372036854775808 = r := ⟨_, rfl⟩
  rw [hr] at hfin h0 ⊢
  have hml := magOf_lt r
  have hm0 : magOf r ≠ 0 := by
    intro hz
    have e1 := rung_eq r
    rcases Nat.eq_zero_or_pos (expOf r) with h | h
    · rw [h, hz] at e1; omega
    · have := mag_ge h; omega
  have hel : expOf r < 2046 := by unfold expOf; omega
  have hs := size_le64 (x := magOf r) (by omega)
  obtain ⟨m, t, h1, h2, h3⟩ := parts_loop (x : Int) (size (magOf r)) (magOf r) (-1074 + (expOf r : Nat)) (Nat.le_refl _) hm0 (by omega) (by omega) (by omega)
  refine ⟨m, t, h1, h2, ?_⟩
  refine Ev.congr (f := fun k => sibylref03_Parts.j0 k (x : Int) (magOf r : Int) ((expOf r : Nat) + 1)) (fun k => ?_) ?_
  · unfold sibylref03_Parts.f sibylref03_Size.f
    rw [tmod63, hr]
    simp only [Option.bind_some]
    rw [if_neg (by omega), if_neg (by omega), show ((r : Nat) : Int) / 4503599627370496 = ((r / 4503599627370496 : Nat) : Int) from rfl, w64 (by omega) (by omega), tmod52]
    by_cases hz : r / 4503599627370496 = 0
    · have hl : r < 4503599627370496 := by omega
      rw [if_pos (by omega)]
      simp only [magOf, expOf, if_pos hl, hz, Nat.mod_eq_of_lt hl]
      rfl
    · have hl : ¬ r < 4503599627370496 := by omega
      rw [if_neg (by omega)]
      simp only [magOf, expOf, if_neg hl]
      rw [wu64 (by omega) (by omega)]
      congr 1
      · omega
      · omega
  · refine Ev.step (f := fun k => sibylref03_Parts.l0 k (x : Int) (magOf r : Int) (-1074 + (expOf r : Nat))) (fun k => ?_) h3
    simp only [sibylref03_Parts.j0]
    congr 1
    rw [w64 (by omega) (by omega)]
    omega
theorem parts_zero {x : Nat} (h : x % 9223372036854775808 = 0) : Ev (fun k => sibylref03_Parts.f k (x : Int)) (decide ((x : Int) ≥ 9223372036854775808), 0, 0, 0) := by
  refine Ev.congr (f := fun _ => some (decide ((x : Int) ≥ 9223372036854775808), 0, 0, 0)) (fun k => ?_) (Ev.now _)
  unfold sibylref03_Parts.f sibylref03_Size.f
  rw [tmod63, h]
  simp only [Option.bind_some]
  rw [if_neg (by omega), if_pos (by omega)]
theorem wuE (x : Int) : IntKind.u64.wrap x = x % 18446744073709551616 := by simp [IntKind.wrap, IntKind.bits, IntKind.signed]
theorem join_tail {sg : Nat} (hsg : sg ≤ 9223372036854775808) {q : Int} {m : Nat} (hq0 : -1074 ≤ q) (hq1 : q ≤ 10000) (hm : m ≤ 9007199254740992) (hlow : m < 4503599627370496 → q = -1074) :
    Ev (fun k => sibylref03_Join.j4 k (sg : Int) q (m : Int)) ((sg + min ((q + 1074).toNat * 4503599627370496 + m) 9218868437227405312 : Nat) : Int) := by
  by_cases h53 : m = 9007199254740992
  · refine Ev.step2 (f := fun _ => some ((sg + min ((q + 1074).toNat * 4503599627370496 + m) 9218868437227405312 : Nat) : Int)) (fun k => ?_) (Ev.now _)
    simp only [sibylref03_Join.j4]
    rw [if_pos (by omega)]
    simp only [sibylref03_Join.j5]
    rw [if_neg (by omega), w64 (x := q + 1) (by omega) (by omega), w64 (x := q + 1 + 1075) (by omega) (by omega)]
    by_cases hbig : q + 1 + 1075 > 2046
    · rw [if_pos hbig, Nat.min_eq_right (by omega)]
      refine congrArg some ?_
      rw [wuE]; omega
    · rw [if_neg hbig, Nat.min_eq_left (by omega)]
      refine congrArg some ?_
      simp only [wuE]; omega
  · refine Ev.step2 (f := fun _ => some ((sg + min ((q + 1074).toNat * 4503599627370496 + m) 9218868437227405312 : Nat) : Int)) (fun k => ?_) (Ev.now _)
    simp only [sibylref03_Join.j4]
    rw [if_neg (by omega)]
    simp only [sibylref03_Join.j5]
    by_cases hsub : m < 4503599627370496
    · have := hlow hsub
      subst this
      rw [if_pos (by omega), Nat.min_eq_left (by omega)]
      refine congrArg some ?_
      rw [wuE]; omega
    · rw [if_neg (by omega), w64 (x := q + 1075) (by omega) (by omega)]
      by_cases hbig : q + 1075 > 2046
      · rw [if_pos hbig, Nat.min_eq_right (by omega)]
        refine congrArg some ?_
        rw [wuE]; omega
      · rw [if_neg hbig, Nat.min_eq_left (by omega)]
        refine congrArg some ?_
        simp only [wuE]; omega
theorem join_up {sg man : Nat} {q : Int} {r : Int} (hq0 : -1074 ≤ q) (hq1 : q ≤ 10000) : ∀ (j m : Nat), m * 2 ^ j < 18446744073709551616 → j ≤ 10000 →
    Ev (fun k => sibylref03_Join.j4 k (sg : Int) q ((m * 2 ^ j : Nat) : Int)) r → Ev (fun k => sibylref03_Join.l0 k (man : Int) (q + (j : Int)) (sg : Int) q (m : Int)) r := by
  intro j
  induction j with
  | zero =>
    intro m hm _ h
    refine Ev.step (f := fun k => sibylref03_Join.j4 k (sg : Int) q ((m * 2 ^ 0 : Nat) : Int)) (fun k => ?_) h
    simp only [sibylref03_Join.l0]
    rw [if_neg (by omega), if_neg (by omega), Nat.pow_zero, Nat.mul_one]
  | succ j ih =>
    intro m hm hj h
    have e : m * 2 ^ (j + 1) = (m * 2) * 2 ^ j := by rw [Nat.pow_succ]; simp only [Nat.mul_assoc, Nat.mul_comm]
    have hp := Nat.two_pow_pos j
    have hm2 : m * 2 ≤ (m * 2) * 2 ^ j := Nat.le_mul_of_pos_right _ hp
    rw [e] at hm h
    refine Ev.step (f := fun k => sibylref03_Join.l0 k (man : Int) (q + (j : Int)) (sg : Int) q ((m * 2 : Nat) : Int)) (fun k => ?_) (ih (m * 2) hm (by omega) h)
    simp only [sibylref03_Join.l0]
    rw [if_pos (by omega), w64 (by omega) (by omega), wu64 (by omega) (by omega)]
    congr 1
    omega
end Go.Proofs.Ytjppanekddljbaa.Lb
/- What the reference's Join, round and Add answer: Ieee's own. -/
namespace Go.Proofs.Ytjppanekddljbaa.Lb
open Go.RowKit Go.Proofs.Ytjppanekddljbaa.Pr Go.Proofs.YtjppanekddljbaaW.PrintWords Go.Proofs.YtjppanekddljbaaW.PrintLast Go.Proofs.YtjppanekddljbaaW.PrintMore
open Go.Proofs.Ytjppanekddljbaa.Fl
theorem shrN {y s : Nat} (hs : s ≤ 64) : shr .u64 ((y : Nat) : Int) ((s : Nat) : Int) = ((y / 2 ^ s : Nat) : Int) := by
  have e : ((2 : Int) ^ s) = ((2 ^ s : Nat) : Int) := by rw [Int.natCast_pow]; rfl
  unfold shr
  rw [Int.toNat_natCast, Nat.min_eq_left (by simp [IntKind.bits]; omega), e]
  exact (Int.natCast_ediv y _).symm
theorem shlN {y s : Nat} (hs : s ≤ 64) (h : y * 2 ^ s < 18446744073709551616) : shl .u64 ((y : Nat) : Int) ((s : Nat) : Int) = ((y * 2 ^ s : Nat) : Int) := by
  have e : ((y : Nat) : Int) * 2 ^ s = ((y * 2 ^ s : Nat) : Int) := by rw [Int.natCast_mul, Int.natCast_pow]; rfl
  unfold shl
  rw [Int.toNat_natCast, Nat.min_eq_left (by simp [IntKind.bits]; omega), e, wuN h]
theorem shl_one {s : Nat} (hs : s ≤ 63) : shl .u64 1 ((s : Nat) : Int) = ((2 ^ s : Nat) : Int) := by
  have h : 2 ^ s ≤ 2 ^ 63 := Nat.pow_le_pow_right (by decide) hs
  have := shlN (y := 1) (s := s) (by omega) (by omega)
  rw [Nat.one_mul] at this
  exact this
/-- less than the last digit that is kept -/
theorem join_down {sg man : Nat} {q : Int} {s : Nat} {r : Int} (hm : man < 18446744073709551616) (hs1 : 1 ≤ s) (hs2 : s ≤ 64) (hq0 : -10000 ≤ q) (hq1 : q ≤ 10000)
    (h : Ev (fun k => sibylref03_Join.j4 k (sg : Int) q ((rhe man s : Nat) : Int)) r) : Ev (fun k => sibylref03_Join.l0 k (man : Int) (q - (s : Int)) (sg : Int) q (man : Int)) r := by
  refine Ev.step (f := fun k => sibylref03_Join.j4 k (sg : Int) q ((rhe man s : Nat) : Int)) (fun k => ?_) h
  simp only [sibylref03_Join.l0]
  rw [if_neg (by omega), if_pos (by omega)]
  have e1 : wrap64 (q - (q - (s : Int))) = ((s : Nat) : Int) := by rw [w64 (by omega) (by omega)]; omega
  have e2 : IntKind.u64.wrap (wrap64 (((s : Nat) : Int) - 1)) = ((s - 1 : Nat) : Int) := by rw [w64 (by omega) (by omega), wu64 (by omega) (by omega)]; omega
  have hpow : 2 * 2 ^ (s - 1) = 2 ^ s := by rw [Nat.mul_comm, ← Nat.pow_succ]; congr 1; omega
  rw [e1, e2, shl_one (by omega), if_neg (by omega), if_pos (by omega)]
  have hdm := Nat.div_add_mod man (2 ^ s)
  by_cases h64 : s < 64
  · have e3 : IntKind.u64.wrap ((s : Nat) : Int) = ((s : Nat) : Int) := wuN (by omega)
    have hle : man / 2 ^ s * 2 ^ s ≤ man := Nat.div_mul_le_self _ _
    have hq : man / 2 ^ s ≤ man / 2 := by
      have : 2 ^ 1 ≤ 2 ^ s := Nat.pow_le_pow_right (by decide) hs1
      exact Nat.div_le_div_left (by omega) (by decide)
    have e4 : IntKind.u64.wrap (((man : Nat) : Int) - ((man / 2 ^ s * 2 ^ s : Nat) : Int)) = ((man % 2 ^ s : Nat) : Int) := by
      rw [wu64 (by omega) (by omega)]
      have := Nat.mul_comm (man / 2 ^ s) (2 ^ s)
      omega
    rw [if_pos (by omega), e3, if_pos (by omega), shrN (by omega), shlN (by omega) (by omega), e4]
    have e5 : IntKind.u64.wrap (((man / 2 ^ s : Nat) : Int) + 1) = ((man / 2 ^ s + 1 : Nat) : Int) := by
      obtain ⟨Q, hQ⟩ : ∃ Q, man / 2 ^ s = Q := ⟨_, rfl⟩
      rw [hQ] at hq ⊢
      rw [wu64 (by omega) (by omega)]; rfl
    rw [e5, tmod2]
    unfold rhe
    clear e1 e2 e3 e4 e5 hle hq hdm
    obtain ⟨Q, hQ⟩ : ∃ Q, man / 2 ^ s = Q := ⟨_, rfl⟩
    obtain ⟨R, hR⟩ : ∃ R, man % 2 ^ s = R := ⟨_, rfl⟩
    rw [hQ, hR]
    clear hQ hR
    obtain ⟨P, hP⟩ : ∃ P, 2 ^ s = P := ⟨_, rfl⟩
    obtain ⟨H, hH⟩ : ∃ H, 2 ^ (s - 1) = H := ⟨_, rfl⟩
    rw [hP, hH] at hpow
    rw [hP, hH]
    clear hP hH
    by_cases c1 : P < 2 * R
    · rw [if_pos (by omega), decide_eq_true c1]
      rfl
    · rw [if_neg (by omega), decide_eq_false c1, Bool.false_or]
      by_cases c2 : P = 2 * R
      · rw [if_pos (by omega), decide_eq_true c2, Bool.true_and]
        by_cases c3 : Q % 2 = 1
        · rw [if_pos (by omega), decide_eq_true c3]; rfl
        · rw [if_neg (by omega), decide_eq_false c3]; rfl
      · rw [if_neg (by omega), decide_eq_false c2, Bool.false_and]; rfl
  · obtain rfl : s = 64 := by omega
    rw [if_neg (by omega)]
    have z1 : man / 2 ^ 64 = 0 := Nat.div_eq_of_lt (by omega)
    have z2 : man % 2 ^ 64 = man := Nat.mod_eq_of_lt (by omega)
    unfold rhe
    rw [z1, z2]
    by_cases c1 : 2 ^ 64 < 2 * man
    · rw [if_pos (by omega), decide_eq_true c1]; rfl
    · rw [if_neg (by omega), decide_eq_false c1, Bool.false_or]
      by_cases c2 : 2 ^ 64 = 2 * man
      · rw [if_pos (by omega), if_neg (by decide), decide_eq_true c2]; rfl
      · rw [if_neg (by omega), decide_eq_false c2]; rfl
theorem kept_le {man : Nat} (h0 : man ≠ 0) (exp : Int) : keptOf man (lastOf man exp - exp) ≤ 9007199254740992 := by
  have hlog := Nat.lt_log2_self (n := man)
  have hD : (man.log2 : Int) - 52 ≤ lastOf man exp - exp := by unfold lastOf; omega
  unfold keptOf
  rcases Int.le_total 0 (lastOf man exp - exp) with h | h
  · rw [show (-(lastOf man exp - exp)).toNat = 0 by omega, Nat.pow_zero, Nat.mul_one]
    have h1 := rhe_le man (lastOf man exp - exp).toNat
    have h2 : man / 2 ^ (lastOf man exp - exp).toNat < 2 ^ 53 := by
      rw [Nat.div_lt_iff_lt_mul (Nat.two_pow_pos _), ← Nat.pow_add]
      exact Nat.lt_of_lt_of_le hlog (Nat.pow_le_pow_right (by decide) (by omega))
    omega
  · rw [show (lastOf man exp - exp).toNat = 0 by omega, rhe_zero]
    have h2 : man * 2 ^ (-(lastOf man exp - exp)).toNat < 2 ^ (man.log2 + 1) * 2 ^ (-(lastOf man exp - exp)).toNat := Nat.mul_lt_mul_of_pos_right hlog (Nat.two_pow_pos _)
    rw [← Nat.pow_add] at h2
    have h3 : 2 ^ (man.log2 + 1 + (-(lastOf man exp - exp)).toNat) ≤ 2 ^ 53 := Nat.pow_le_pow_right (by decide) (by omega)
    omega
theorem kept_ge {man : Nat} (h0 : man ≠ 0) (exp : Int) (hl : -1074 < lastOf man exp) : 4503599627370496 ≤ keptOf man (lastOf man exp - exp) := by
  have hlog := Nat.log2_self_le h0
  have hD : lastOf man exp - exp = (man.log2 : Int) - 52 := by unfold lastOf at hl ⊢; omega
  rw [hD]
  unfold keptOf
  rcases Int.le_total 0 ((man.log2 : Int) - 52) with h | h
  · rw [show (-((man.log2 : Int) - 52)).toNat = 0 by omega, Nat.pow_zero, Nat.mul_one]
    refine Nat.le_trans ?_ (rhe_ge _ _)
    rw [Nat.le_div_iff_mul_le (Nat.two_pow_pos _)]
    have : 4503599627370496 * 2 ^ ((man.log2 : Int) - 52).toNat = 2 ^ man.log2 := by
      rw [show (4503599627370496 : Nat) = 2 ^ 52 from rfl, ← Nat.pow_add]; congr 1; omega
    omega
  · rw [show ((man.log2 : Int) - 52).toNat = 0 by omega, rhe_zero]
    have h2 : 2 ^ man.log2 * 2 ^ (-((man.log2 : Int) - 52)).toNat ≤ man * 2 ^ (-((man.log2 : Int) - 52)).toNat := Nat.mul_le_mul_right _ hlog
    rw [← Nat.pow_add, show man.log2 + (-((man.log2 : Int) - 52)).toNat = 52 by omega] at h2
    exact h2
def signedW (neg : Bool) (r : Nat) : Nat := if neg then 9223372036854775808 + r else r
theorem join_ev {neg : Bool} {man : Nat} {exp : Int} (h0 : man ≠ 0) (hm : man < 18446744073709551616) (he0 : -3000 ≤ exp) (he1 : exp ≤ 3000) :
    Ev (fun k => sibylref03_Join.f k neg (man : Int) exp) ((signedW neg (rn man exp) : Nat) : Int) := by
  obtain ⟨sg, hsg⟩ : ∃ sg : Nat, (if neg then 9223372036854775808 else 0) = sg := ⟨_, rfl⟩
  have hsg2 : sg ≤ 9223372036854775808 := by rw [← hsg]; split <;> omega
  have hsz : size man = man.log2 + 1 := by unfold size; rw [if_neg h0]
  have hs64 := size_le64 hm
  refine Ev.congr (f := fun k => sibylref03_Join.j0 k (man : Int) exp (sg : Int)) (fun k => ?_) ?_
  · unfold sibylref03_Join.f
    subst hsg
    cases neg <;> rfl
  · obtain ⟨q, hq⟩ : ∃ q, lastOf man exp = q := ⟨_, rfl⟩
    have hq0 : -1074 ≤ q := by rw [← hq]; unfold lastOf; omega
    have hq1 : q ≤ 4000 := by rw [← hq]; unfold lastOf; omega
    have hkl := kept_le h0 exp
    have hkg := fun h => kept_ge h0 exp h
    rw [hq] at hkl hkg
    have hrn : ((signedW neg (rn man exp) : Nat) : Int) = ((sg + min ((q + 1074).toNat * 4503599627370496 + keptOf man (q - exp)) 9218868437227405312 : Nat) : Int) := by
      unfold signedW rn
      rw [if_neg h0, hq, ← hsg]
      cases neg
      · simp only [Bool.false_eq_true, if_false]; rw [Nat.zero_add]
      · simp only [if_true]
    rw [hrn]
    have htail := join_tail hsg2 hq0 (by omega) hkl (fun hlt => by
      refine Decidable.byContradiction fun hne => ?_
      have := hkg (by omega)
      omega)
    refine Ev.step2 (f := fun k => (sibylref03_length.f k (man : Int)).bind fun t392 => (if (wrap64 ((wrap64 (exp + t392)) - 53)) < (-1074) then (sibylref03_Join.j2 k (man : Int) exp (sg : Int) (-1074)) else (sibylref03_Join.j2 k (man : Int) exp (sg : Int) (wrap64 ((wrap64 (exp + t392)) - 53))))) (fun k => ?_) ?_
    · simp only [sibylref03_Join.j0]
      rw [if_neg (by omega)]
      simp only [sibylref03_Join.j1]
      rw [if_neg (by simp; omega), if_neg (by omega)]
    · refine Ev.bind (length_ev hm) ?_
      refine Ev.congr (f := fun k => sibylref03_Join.j2 k (man : Int) exp (sg : Int) q) (fun k => ?_) ?_
      · rw [w64 (x := exp + ((size man : Nat) : Int)) (by omega) (by omega), w64 (by omega) (by omega)]
        by_cases hlow : exp + ((size man : Nat) : Int) - 53 < -1074
        · rw [if_pos hlow]; congr 1; rw [← hq]; unfold lastOf; omega
        · rw [if_neg hlow]; congr 1; rw [← hq]; unfold lastOf; omega
      · refine Ev.step (f := fun k => sibylref03_Join.l0 k (man : Int) exp (sg : Int) q (man : Int)) (fun k => by simp only [sibylref03_Join.j2]) ?_
        rcases Int.le_total q exp with h | h
        · obtain ⟨j, hj⟩ : ∃ j : Nat, exp = q + (j : Int) := ⟨(exp - q).toNat, by omega⟩
          have hk : keptOf man (q - exp) = man * 2 ^ j := by
            unfold keptOf
            rw [show (q - exp).toNat = 0 by omega, rhe_zero, show (-(q - exp)).toNat = j by omega]
          rw [hk] at htail hkl
          rw [hk]
          rw [hj]
          exact join_up hq0 (by omega) j man (by omega) (by omega) htail
        · rcases Int.lt_or_eq_of_le h with h | h
          · obtain ⟨s, hs⟩ : ∃ s : Nat, exp = q - (s : Int) := ⟨(q - exp).toNat, by omega⟩
            have hk : keptOf man (q - exp) = rhe man s := by
              unfold keptOf
              rw [show (-(q - exp)).toNat = 0 by omega, Nat.pow_zero, Nat.mul_one, show (q - exp).toNat = s by omega]
            rw [hk] at htail
            rw [hk]
            by_cases hbig : s ≤ 64
            · rw [hs]
              exact join_down hm (by omega) hbig (by omega) (by omega) htail
            · have hz : rhe man s = 0 := rhe_small (by
                have : 2 ^ 65 ≤ 2 ^ s := Nat.pow_le_pow_right (by decide) (by omega)
                omega)
              have hqq : q = -1074 := by
                refine Decidable.byContradiction fun hne => ?_
                have := hkg (by omega)
                rw [hk, hz] at this
                omega
              rw [hz]
              refine Ev.step (f := fun _ => some (sg : Int)) (fun k => ?_) ?_
              · simp only [sibylref03_Join.l0]
                rw [if_neg (by omega), if_pos (by omega), w64 (by omega) (by omega), if_pos (by omega)]
              · rw [hqq]
                exact Ev.now _
          · have hk : keptOf man (q - exp) = man * 2 ^ 0 := by
              unfold keptOf
              rw [show (q - exp).toNat = 0 by omega, rhe_zero, show (-(q - exp)).toNat = 0 by omega]
            rw [hk] at htail
            rw [hk]
            have := join_up (man := man) hq0 (by omega) 0 man (by omega) (by omega) htail
            rw [show q + ((0 : Nat) : Int) = exp by omega] at this
            exact this
end Go.Proofs.Ytjppanekddljbaa.Lb
/- What the reference's round answers. -/
namespace Go.Proofs.Ytjppanekddljbaa.Lb
open Go.RowKit Go.Proofs.Ytjppanekddljbaa.Pr Go.Proofs.YtjppanekddljbaaW.PrintWords Go.Proofs.YtjppanekddljbaaW.PrintLast Go.Proofs.YtjppanekddljbaaW.PrintMore
open Go.Proofs.Ytjppanekddljbaa.Fl
theorem norm_len_le {l : List Nat} (hL : Lim l) {n : Nat} (h : n ≤ val l) : (norm n).length ≤ l.length := norm_length_le (Nat.lt_of_le_of_lt h (val_lt hL))
theorem man_loop {q : List Nat} (hq : Lim q) (hlen : q.length ≤ 100000) (hv : val q < 9223372036854775808) {neg : Bool} {e : Int} {rest : Bool} {s : Int} {r : Int}
    (h : Ev (fun k => if rest = true then ((sibylref03_Join.f k neg ((2 * val q + 1 : Nat) : Int) (wrap64 ((wrap64 (e + s)) - 1))).bind fun t => (some t)) else ((sibylref03_Join.f k neg ((2 * val q : Nat) : Int) (wrap64 ((wrap64 (e + s)) - 1))).bind fun t => (some t))) r) :
    ∀ n, n ≤ q.length → Ev (fun k => sibylref21_round.l0 k neg e rest s (U q) ((val (q.drop n) : Nat) : Int) ((n : Int) - 1)) r := by
  intro n
  induction n with
  | zero =>
    intro _
    rw [List.drop_zero]
    refine Ev.step ?_ h
    intro k
    simp only [sibylref21_round.l0]
    rw [if_neg (by omega), wu64 (x := 2 * ((val q : Nat) : Int)) (by omega) (by omega), wu64 (by omega) (by omega)]
    rfl
  | succ n ih =>
    intro hn
    have h1 := lim_get hq n
    have h2 := val_drop q n
    have h3 : val (q.drop n) ≤ val q := by rw [val_drop_div hq]; exact Nat.div_le_self _ _
    refine Ev.step (f := fun k => sibylref21_round.l0 k neg e rest s (U q) ((val (q.drop n) : Nat) : Int) ((n : Int) - 1)) (fun k => ?_) (ih (by omega))
    simp only [sibylref21_round.l0, U_length]
    rw [show (((n + 1 : Nat) : Int) - 1) = (n : Int) by omega, if_pos (by omega), if_pos (by omega), if_pos (by omega), rd_U, wuN (n := q.getD n 0) (by omega), wu64 (x := ((val (q.drop (n + 1)) : Nat) : Int) * 4294967296) (by omega) (by omega), wu64 (by omega) (by omega), w64 (by omega) (by omega)]
    congr 1
    omega
theorem round_j0 {l : List Nat} (hL : Lim l) (hlen : l.length ≤ 100000) (h63 : 63 ≤ size (val l)) (hsz : size (val l) ≤ 900000) {neg rest : Bool} {e : Int} (he0 : -2500 ≤ e) (he1 : e + size (val l) ≤ 2500) :
    Ev (fun k => sibylref21_round.j0 k neg (U l) e rest ((size (val l) - 63 : Nat) : Int)) ((signedW neg (rn (2 * val l + rest.toNat) (e - 1)) : Nat) : Int) := by
  obtain ⟨n, hn⟩ : ∃ n, val l = n := ⟨_, rfl⟩
  obtain ⟨s, hs⟩ : ∃ s, size n - 63 = s := ⟨_, rfl⟩
  have hn0 : n ≠ 0 := fun h => by rw [hn, h] at h63; simp [size] at h63
  rw [hn, hs]
  rw [hn] at h63 hsz he1
  have hlt := size_lt n
  have hge := size_ge hn0
  have hq1 : n / 2 ^ s < 2 ^ 63 := by
    rw [Nat.div_lt_iff_lt_mul (Nat.two_pow_pos _), ← Nat.pow_add, show 63 + s = size n by omega]; exact hlt
  have hq2 : 2 ^ 62 ≤ n / 2 ^ s := by
    rw [Nat.le_div_iff_mul_le (Nat.two_pow_pos _), ← Nat.pow_add, show 62 + s = size n - 1 by omega]; exact hge
  have hqn : n / 2 ^ s ≤ n := Nat.div_le_self _ _
  have hmul : n / 2 ^ s * 2 ^ s ≤ n := Nat.div_mul_le_self _ _
  have hdm := Nat.div_add_mod n (2 ^ s)
  have hml : (norm (n / 2 ^ s)).length ≤ l.length := norm_len_le hL (by rw [hn]; exact hqn)
  have hml2 : (norm (n / 2 ^ s * 2 ^ s)).length ≤ l.length := norm_len_le hL (by rw [hn]; exact hmul)
  have hsh := shr_ev hL (by omega) (n := s) (by omega)
  rw [hn] at hsh
  have hsl := shl_ev (lim_norm (n / 2 ^ s)) (by omega) (n := s) (by omega)
  rw [val_norm] at hsl
  have hcm := cmp_ev (lim_norm (n / 2 ^ s * 2 ^ s)) hL (by omega) (by omega)
  rw [val_norm, hn] at hcm
  -- what is handed to Join
  have join_of : ∀ rr : Bool, ((rr = true) ↔ (rest = true ∨ n % 2 ^ s ≠ 0)) → Ev (fun k => sibylref21_round.j1 k neg e rr (s : Int) (U (norm (n / 2 ^ s)))) ((signedW neg (rn (2 * n + rest.toNat) (e - 1)) : Nat) : Int) := by
    intro rr hrr
    refine Ev.step (f := fun k => sibylref21_round.l0 k neg e rr (s : Int) (U (norm (n / 2 ^ s))) 0 (((norm (n / 2 ^ s)).length : Int) - 1)) (fun k => ?_) ?_
    · simp only [sibylref21_round.j1, U_length]
      rw [w64 (by omega) (by omega)]
    · have hst : sticky (2 * n + rest.toNat) (s + 1) = 2 * (n / 2 ^ s) + rr.toNat := by
        unfold sticky
        have hb : rest.toNat ≤ 1 := by cases rest <;> decide
        have a1 : (2 * n + rest.toNat) / 2 = n := by omega
        have a2 : (2 * n + rest.toNat) % 2 = rest.toNat := by omega
        rw [Nat.pow_succ, Nat.mul_comm (2 ^ s), ← Nat.div_div_eq_div_mul, a1, Nat.mod_mul, a1, a2]
        congr 1
        cases rr
        · have hno : ¬ (rest = true ∨ n % 2 ^ s ≠ 0) := fun h => by have := hrr.2 h; cases this
          have h1 : rest = false := by cases rest; rfl; exact absurd (.inl rfl) hno
          have h2 : n % 2 ^ s = 0 := Decidable.byContradiction fun h => hno (.inr h)
          rw [h1, h2]; rfl
        · rcases hrr.1 rfl with h1 | h1
          · rw [h1]; simp <;> omega
          · have : (rest.toNat + 2 * (n % 2 ^ s) != 0) = true := by simp; omega
            rw [this]
      have hbig : 2 ^ 54 ≤ (2 * n + rest.toNat) / 2 ^ (s + 1) := by
        have hb : rest.toNat ≤ 1 := by cases rest <;> decide
        rw [Nat.pow_succ 2 s, Nat.mul_comm (2 ^ s), ← Nat.div_div_eq_div_mul, show (2 * n + rest.toNat) / 2 = n by omega]
        omega
      have hrn := rn_sticky (e - 1) (Nat.le_trans (by decide) hbig)
      rw [hst] at hrn
      have hb2 : rr.toNat ≤ 1 := by cases rr <;> decide
      have hj := join_ev (neg := neg) (man := 2 * (n / 2 ^ s) + rr.toNat) (exp := e - 1 + ((s + 1 : Nat) : Int) - 1) (by omega) (by omega) (by omega) (by omega)
      rw [hrn] at hj
      have hv : val (norm (n / 2 ^ s)) = n / 2 ^ s := val_norm _
      have := man_loop (lim_norm (n / 2 ^ s)) (by omega) (by rw [hv]; omega) (neg := neg) (e := e) (rest := rr) (s := (s : Int)) (r := ((signedW neg (rn (2 * n + rest.toNat) (e - 1)) : Nat) : Int)) (by
        rw [hv]
        have hw : wrap64 ((wrap64 (e + (s : Int))) - 1) = e - 1 + ((s + 1 : Nat) : Int) - 1 := by rw [w64 (x := e + (s : Int)) (by omega) (by omega), w64 (by omega) (by omega)]; omega
        rw [hw]
        cases rr
        · refine Ev.congr (fun k => if_neg (by decide)) ?_
          exact Ev.bind hj (Ev.now _)
        · refine Ev.congr (fun k => if_pos rfl) ?_
          exact Ev.bind hj (Ev.now _)) (norm (n / 2 ^ s)).length (Nat.le_refl _)
      rw [List.drop_length] at this
      exact this
  refine Ev.step (f := fun k => (sibylref01_Shr.f k (U l) (s : Int)).bind fun t404 => ((sibylref01_Shl.f k t404 (s : Int)).bind fun t407 => ((sibylref01_Cmp.f k t407 (U l)).bind fun t410 => (if t410 = 0 then (sibylref21_round.j1 k neg e rest (s : Int) t404) else (sibylref21_round.j1 k neg e true (s : Int) t404))))) (fun k => by simp only [sibylref21_round.j0]) ?_
  refine Ev.bind hsh (Ev.bind hsl (Ev.bind hcm ?_))
  by_cases hz : n % 2 ^ s = 0
  · have he : n / 2 ^ s * 2 ^ s = n := by rw [Nat.mul_comm]; omega
    refine Ev.congr (fun k => if_pos (by rw [he, if_neg (by omega), if_neg (by omega)])) (join_of rest ?_)
    simp [hz]
  · have hlt2 : n / 2 ^ s * 2 ^ s < n := by rw [Nat.mul_comm]; omega
    refine Ev.congr (fun k => if_neg (by rw [if_pos hlt2]; decide)) (join_of true ?_)
    simp [hz]
/-- of 63 bits or more, with a rest -/
theorem round_ev {l : List Nat} (hL : Lim l) (hlen : l.length ≤ 20000) (h63 : 63 ≤ size (val l)) (hsz : size (val l) ≤ 900000) {neg rest : Bool} {e : Int} (he0 : -2500 ≤ e) (he1 : e + size (val l) ≤ 2500) :
    Ev (fun k => sibylref21_round.f k neg (U l) e rest) ((signedW neg (rn (2 * val l + rest.toNat) (e - 1)) : Nat) : Int) := by
  unfold sibylref21_round.f
  refine Ev.bind (bits_ev hL (by omega)) ?_
  have hw : wrap64 (((size (val l) : Nat) : Int) - 63) = ((size (val l) - 63 : Nat) : Int) := by rw [w64 (by omega) (by omega)]; omega
  rw [hw]
  refine Ev.congr (fun k => if_neg (by omega)) ?_
  exact round_j0 hL (by omega) h63 hsz he0 he1
/-- of any size, without a rest -/
theorem round_exact {l : List Nat} (hL : Lim l) (hlen : l.length ≤ 20000) (h0 : val l ≠ 0) (hsz : size (val l) ≤ 900000) {neg : Bool} {e : Int} (he0 : -2400 ≤ e) (he1 : e + size (val l) ≤ 2500) :
    Ev (fun k => sibylref21_round.f k neg (U l) e false) ((signedW neg (rn (val l) e) : Nat) : Int) := by
  by_cases h63 : 63 ≤ size (val l)
  · have h := round_ev (neg := neg) (rest := false) (e := e) hL hlen h63 hsz (by omega) he1
    have e1 : rn (2 * val l + false.toNat) (e - 1) = rn (val l) e := by
      have := rn_shift (val l) 1 (e - 1)
      rw [show e - 1 + ((1 : Nat) : Int) = e by omega] at this
      rw [← this]
      congr 1
      show 2 * val l + 0 = val l * 2 ^ 1
      omega
    rw [e1] at h
    exact h
  · obtain ⟨t, ht⟩ : ∃ t, 63 - size (val l) = t := ⟨_, rfl⟩
    have hs1 : 1 ≤ size (val l) := by unfold size; rw [if_neg h0]; omega
    unfold sibylref21_round.f
    refine Ev.bind (bits_ev hL (by omega)) ?_
    have hw : wrap64 (((size (val l) : Nat) : Int) - 63) = -(t : Int) := by rw [w64 (by omega) (by omega)]; omega
    rw [hw]
    have hw2 : wrap64 (-(-(t : Int))) = (t : Int) := by rw [w64 (by omega) (by omega)]; omega
    have hw3 : wrap64 (e + -(t : Int)) = e - (t : Int) := by rw [w64 (by omega) (by omega)]; omega
    rw [hw2, hw3]
    refine Ev.congr (fun k => if_pos (by omega)) ?_
    refine Ev.bind (shl_ev hL (by omega) (n := t) (by omega)) ?_
    have hv : val (norm (val l * 2 ^ t)) = val l * 2 ^ t := val_norm _
    have hszm : size (val l * 2 ^ t) = 63 := by rw [size_mul h0]; omega
    have hnl : (norm (val l * 2 ^ t)).length ≤ 2 := norm_length_le (by
      have := size_lt (val l * 2 ^ t)
      rw [hszm] at this
      exact Nat.lt_of_lt_of_le this (by decide))
    have h := round_j0 (neg := neg) (rest := false) (e := e - (t : Int)) (lim_norm (val l * 2 ^ t)) (by omega) (by rw [hv]; omega) (by rw [hv]; omega) (by omega) (by rw [hv]; omega)
    rw [hv, hszm] at h
    have e1 : rn (2 * (val l * 2 ^ t) + false.toNat) (e - (t : Int) - 1) = rn (val l) e := by
      have := rn_shift (val l) (t + 1) (e - (t : Int) - 1)
      rw [show e - (t : Int) - 1 + ((t + 1 : Nat) : Int) = e by omega] at this
      rw [← this]
      congr 1
      show 2 * (val l * 2 ^ t) + 0 = val l * 2 ^ (t + 1)
      rw [Nat.pow_succ, Nat.add_zero, Nat.mul_comm 2, Nat.mul_assoc]
    rw [e1] at h
    exact h
end Go.Proofs.Ytjppanekddljbaa.Lb
/- The reference's Add is Ieee's; so is its Total. -/
namespace Go.Proofs.Ytjppanekddljbaa.Lb
open Go.RowKit Go.Proofs.Ytjppanekddljbaa.Pr Go.Proofs.YtjppanekddljbaaW.PrintWords Go.Proofs.YtjppanekddljbaaW.PrintLast Go.Proofs.YtjppanekddljbaaW.PrintMore
open Go.Proofs.Ytjppanekddljbaa.Fl Ieee
def sgB (x : Nat) : Bool := decide (9223372036854775808 ≤ x)
def rung (x : Nat) : Nat := x % 9223372036854775808
theorem word_eq {x : Nat} (hx : x < 18446744073709551616) : x = signedW (sgB x) (rung x) := by
  unfold signedW sgB rung
  by_cases h : 9223372036854775808 ≤ x
  · rw [decide_eq_true h, if_pos rfl]; omega
  · rw [decide_eq_false h, if_neg (by decide)]; omega
theorem sgB_div {x : Nat} (hx : x < 18446744073709551616) : (x / 9223372036854775808 % 2 == 1) = sgB x := by
  unfold sgB
  by_cases h : 9223372036854775808 ≤ x
  · rw [decide_eq_true h, beq_iff_eq]; omega
  · rw [decide_eq_false h, beq_eq_false_iff_ne]; omega
theorem sgB_int (x : Nat) : decide ((x : Int) ≥ 9223372036854775808) = sgB x := by unfold sgB; exact decide_eq_decide.2 (by omega)
theorem valOf_zero {r : Nat} (h : Fl.valOf r = 0) : r = 0 := by
  rcases Nat.eq_zero_or_pos r with h0 | h0
  · exact h0
  · have := Fl.val_lt h0
    omega
/-- what Parts tells of a finite float: its value in units of the least -/
theorem parts_val {x : Nat} (_hx : x < 18446744073709551616) (hfin : rung x < 9218868437227405312) :
    ∃ (m : Nat) (e : Int), m < 9007199254740992 ∧ -1074 ≤ e ∧ e ≤ 1100 ∧ m * 2 ^ (e + 1074).toNat = Fl.valOf (rung x) ∧ Ev (fun k => sibylref03_Parts.f k (x : Int)) (sgB x, (m : Int), e, 0) := by
  by_cases h0 : rung x = 0
  · refine ⟨0, 0, by omega, by omega, by omega, by rw [h0, Nat.zero_mul]; decide, ?_⟩
    have := parts_zero (x := x) h0
    rw [sgB_int] at this
    exact this
  · obtain ⟨m, t, h1, h2, h3⟩ := parts_ev (x := x) hfin h0
    rw [sgB_int] at h3
    have hml := magOf_lt (rung x)
    have hel : expOf (rung x) < 2046 := by unfold expOf; omega
    have hm0 : m ≠ 0 := by omega
    have hp := Nat.two_pow_pos t
    have hmle : m ≤ m * 2 ^ t := Nat.le_mul_of_pos_right _ hp
    have hmag : m * 2 ^ t = magOf (rung x) := h1.symm
    have ht : t ≤ 53 := by
      have h4 : 2 ^ t ≤ m * 2 ^ t := Nat.le_mul_of_pos_left _ (by omega)
      have h5 : 2 ^ t < 2 ^ 54 := by omega
      have := (Nat.pow_lt_pow_iff_right (by decide : 1 < 2)).1 h5
      omega
    refine ⟨m, -1074 + (expOf (rung x) : Nat) + (t : Int), by omega, by omega, by omega, ?_, h3⟩
    rw [show (-1074 + ((expOf (rung x) : Nat) : Int) + (t : Int) + 1074).toNat = t + expOf (rung x) by omega, Nat.pow_add, ← Nat.mul_assoc, hmag]
    rfl
theorem read_word {x : Nat} (hx : x < 18446744073709551616) (hfin : rung x < 9218868437227405312) : double.read x = .number (sgB x) (magOf (rung x)) (-1074 + (expOf (rung x) : Nat)) := by
  rw [read_fin x hfin, sgB_div hx]
  rfl
theorem natural_ev {m : Nat} (hm : m < 18446744073709551616) : sibylref21_natural.f (m : Int) = some (U [m % 4294967296, m / 4294967296]) := by
  unfold sibylref21_natural.f
  rw [show Int.tmod (m : Int) 4294967296 % 4294967296 = ((m % 4294967296 : Nat) : Int) from tmodB m, tdivB, wuN (by omega), modB (by omega)]
  rfl
theorem natural_val (m : Nat) : val [m % 4294967296, m / 4294967296] = m := by simp only [val]; omega
theorem natural_lim {m : Nat} (hm : m < 18446744073709551616) : Lim [m % 4294967296, m / 4294967296] := lim_cons.2 ⟨Nat.mod_lt _ (by decide), lim_one (by omega)⟩
def sgn (p : Bool) (A : Nat) : Int := if p then -(A : Int) else (A : Int)
theorem signed_scale (p : Bool) (M : Nat) (i b : Int) (K e : Nat) (hi : i = -1074 + (e : Int)) (hb : b = -1074 + (K : Int)) (hle : b ≤ i) : signed p M (i - b).toNat * ((2 ^ K : Nat) : Int) = sgn p (M * 2 ^ e) := by
  have h : M * 2 ^ (i - b).toNat * 2 ^ K = M * 2 ^ e := by
    rw [Nat.mul_assoc, ← Nat.pow_add]; congr 2; omega
  unfold signed sgn
  rw [Nat.shiftLeft_eq]
  cases p
  · simp only [Bool.false_eq_true, if_false]
    rw [← Int.natCast_mul, h]
  · simp only [if_true]
    rw [Int.neg_mul, ← Int.natCast_mul, h]
theorem add_fin {x y : Nat} (hx : x < 18446744073709551616) (hy : y < 18446744073709551616) (fx : rung x < 9218868437227405312) (fy : rung y < 9218868437227405312) :
    double.add x y = some (signedW (if sgn (sgB x) (Fl.valOf (rung x)) + sgn (sgB y) (Fl.valOf (rung y)) = 0 then (sgB x && sgB y) else decide (sgn (sgB x) (Fl.valOf (rung x)) + sgn (sgB y) (Fl.valOf (rung y)) < 0))
      (rn (sgn (sgB x) (Fl.valOf (rung x)) + sgn (sgB y) (Fl.valOf (rung y))).natAbs (-1074))) := by
  unfold Format.add
  rw [read_word hx fx, read_word hy fy]
  obtain ⟨i, hi⟩ : ∃ i : Int, -1074 + (expOf (rung x) : Nat) = i := ⟨_, rfl⟩
  obtain ⟨j, hj⟩ : ∃ j : Int, -1074 + (expOf (rung y) : Nat) = j := ⟨_, rfl⟩
  rw [hi, hj]
  simp only [Datum.sum, Option.map_some]
  obtain ⟨b, hb⟩ : ∃ b, min i j = b := ⟨_, rfl⟩
  rw [hb]
  obtain ⟨K, hK⟩ : ∃ K : Nat, b = -1074 + (K : Int) := ⟨(b + 1074).toNat, by omega⟩
  have e1 := signed_scale (sgB x) (magOf (rung x)) i b K (expOf (rung x)) hi.symm hK (by omega)
  have e2 := signed_scale (sgB y) (magOf (rung y)) j b K (expOf (rung y)) hj.symm hK (by omega)
  have e3 : sgn (sgB x) (Fl.valOf (rung x)) = sgn (sgB x) (magOf (rung x) * 2 ^ expOf (rung x)) := rfl
  have e4 : sgn (sgB y) (Fl.valOf (rung y)) = sgn (sgB y) (magOf (rung y) * 2 ^ expOf (rung y)) := rfl
  rw [e3, e4, ← e1, ← e2, ← Int.add_mul]
  obtain ⟨T, hT⟩ : ∃ T, signed (sgB x) (magOf (rung x)) (i - b).toNat + signed (sgB y) (magOf (rung y)) (j - b).toNat = T := ⟨_, rfl⟩
  rw [hT]
  have hp : 0 < ((2 ^ K : Nat) : Int) := by have := Nat.two_pow_pos K; omega
  show some (double.nearest _ _ _) = _
  rw [nearest_eq]
  refine congrArg some ?_
  have c1 : (T * ((2 ^ K : Nat) : Int) = 0) ↔ T = 0 := by rw [Int.mul_eq_zero]; omega
  have c2 : (T * ((2 ^ K : Nat) : Int) < 0) ↔ T < 0 := by
    constructor
    · intro h
      refine Decidable.byContradiction fun hn => ?_
      have := Int.mul_nonneg (a := T) (b := ((2 ^ K : Nat) : Int)) (by omega) (by omega)
      omega
    · intro h; exact Int.mul_neg_of_neg_of_pos h hp
  have c3 : (T * ((2 ^ K : Nat) : Int)).natAbs = T.natAbs * 2 ^ K := by rw [Int.natAbs_mul, Int.natAbs_natCast]
  have c4 : rn (T.natAbs * 2 ^ K) (-1074) = rn T.natAbs b := by rw [rn_shift, hK]
  rw [c3, c4]
  unfold signedW
  by_cases hz : T = 0
  · rw [if_pos hz, if_pos (c1.2 hz)]
  · rw [if_neg hz, if_neg (fun h => hz (c1.1 h)), decide_eq_decide.2 c2]
def addC (x y : Nat) : Nat := (double.add x y).getD 9221120237041090561
theorem val_bound {m n c : Nat} (hm : m < 9007199254740992) (hn : 53 + n ≤ 32 * c) : size (m * 2 ^ n) ≤ 53 + n ∧ (norm (m * 2 ^ n)).length ≤ c := by
  have h1 : m * 2 ^ n < 2 ^ (53 + n) := by rw [Nat.pow_add]; exact Nat.mul_lt_mul_of_pos_right hm (Nat.two_pow_pos _)
  refine ⟨size_le_of_lt h1, norm_length_le ?_⟩
  rw [pow32]
  exact Nat.lt_of_lt_of_le h1 (Nat.pow_le_pow_right (by decide) hn)
theorem size_add {u v c : Nat} (hu : size u ≤ c) (hv : size v ≤ c) : size (u + v) ≤ c + 1 := by
  refine size_le_of_lt ?_
  have h1 : u < 2 ^ c := Nat.lt_of_lt_of_le (size_lt u) (Nat.pow_le_pow_right (by decide) hu)
  have h2 : v < 2 ^ c := Nat.lt_of_lt_of_le (size_lt v) (Nat.pow_le_pow_right (by decide) hv)
  rw [Nat.pow_succ]
  omega
theorem size_sub {u v c : Nat} (hu : size u ≤ c) : size (u - v) ≤ c :=
  size_le_of_lt (Nat.lt_of_le_of_lt (Nat.sub_le u v) (Nat.lt_of_lt_of_le (size_lt u) (Nat.pow_le_pow_right (by decide) hu)))
theorem norm_len_size {n c : Nat} (h : size n ≤ 32 * c) : (norm n).length ≤ c := norm_length_le (by
  rw [pow32]
  exact Nat.lt_of_lt_of_le (size_lt n) (Nat.pow_le_pow_right (by decide) h))
theorem sgn_abs (p : Bool) (C : Nat) : (sgn p C).natAbs = C := by unfold sgn; cases p <;> simp
theorem sgn_zero (p : Bool) {C : Nat} : sgn p C = 0 ↔ C = 0 := by unfold sgn; cases p <;> simp
theorem sgn_neg (p : Bool) {C : Nat} (h : 0 < C) : decide (sgn p C < 0) = p := by
  unfold sgn
  cases p
  · simp only [Bool.false_eq_true, if_false]; exact decide_eq_false (by omega)
  · simp only [if_true]; exact decide_eq_true (by omega)
/-- the last step: a difference, or a sum, rounded -/
theorem last_step {W K : Nat} {low : Int} (p : Bool) (hK : low = -1074 + (K : Int)) (hlow : low ≤ 1100) (h0 : W ≠ 0) (hsz : size W ≤ 3200) (hsl : (size W : Int) + low ≤ 1200) (q : Bool) :
    Ev (fun k => (sibylref21_round.f k p (U (norm W)) low false).bind fun t => some t) ((signedW (if sgn p (W * 2 ^ K) = 0 then q else decide (sgn p (W * 2 ^ K) < 0)) (rn (sgn p (W * 2 ^ K)).natAbs (-1074)) : Nat) : Int) := by
  have hpos : 0 < W * 2 ^ K := Nat.mul_pos (by omega) (Nat.two_pow_pos _)
  have hv : val (norm W) = W := val_norm W
  rw [if_neg (fun h => by have := (sgn_zero p).1 h; omega), sgn_neg p hpos, sgn_abs, rn_shift, ← hK]
  have hr := round_exact (neg := p) (e := low) (lim_norm W) (by have := norm_len_size (n := W) (c := 100) (by omega); omega) (by rw [hv]; exact h0) (by rw [hv]; omega) (by omega) (by rw [hv]; omega)
  rw [hv] at hr
  exact Ev.bind hr (Ev.now _)
/-- what is answered of a sum S -/
def ansOf (q : Bool) (S : Int) : Nat := signedW (if S = 0 then q else decide (S < 0)) (rn S.natAbs (-1074))
theorem last_step' {W K : Nat} {low : Int} (p : Bool) (hK : low = -1074 + (K : Int)) (hlow : low ≤ 1100) (h0 : W ≠ 0) (hsz : size W ≤ 3200) (hsl : (size W : Int) + low ≤ 1200) (q : Bool) :
    Ev (fun k => (sibylref21_round.f k p (U (norm W)) low false).bind fun t => some t) ((ansOf q (sgn p (W * 2 ^ K)) : Nat) : Int) := last_step p hK hlow h0 hsz hsl q
theorem same_step {u v K cu : Nat} {low : Int} {x : Nat} (p : Bool) (hK : low = -1074 + (K : Int)) (hlow : low ≤ 1100) (hu : size u ≤ cu) (hv : size v ≤ cu) (hc : cu ≤ 3000) (hcl : (cu : Int) + low ≤ 1199) (hx : u + v = 0 → x = signedW p 0) :
    Ev (fun k => (sibylref01_Plus.f k (U (norm u)) (U (norm v))).bind fun t450 => (if (t450.length : Int) = 0 then (some (x : Int)) else ((sibylref21_round.f k p t450 low false).bind fun t453 => (some t453)))) ((ansOf p (sgn p ((u + v) * 2 ^ K)) : Nat) : Int) := by
  have n1 := norm_len_size (n := u) (c := 100) (by omega)
  have n2 := norm_len_size (n := v) (c := 100) (by omega)
  have hpl := plus_ev (lim_norm u) (lim_norm v) (by omega) (by omega)
  rw [val_norm, val_norm] at hpl
  refine Ev.bind hpl ?_
  have hs1 := size_add hu hv
  by_cases h0 : u + v = 0
  · rw [h0, norm_zero, Nat.zero_mul]
    refine Ev.congr (f := fun _ => some (x : Int)) (fun k => if_pos rfl) ?_
    unfold ansOf
    rw [if_pos ((sgn_zero p).2 rfl), sgn_abs, show rn 0 (-1074) = 0 from if_pos rfl, hx h0]
    exact Ev.now _
  · have hne : (norm (u + v)).length ≠ 0 := fun h => by
      have := val_norm (u + v)
      rw [List.eq_nil_of_length_eq_zero h] at this
      exact h0 this.symm
    refine Ev.congr (fun k => if_neg (by rw [U_length]; omega)) ?_
    exact last_step' p hK hlow h0 (by omega) (by omega) p
theorem opp_step {u v K cu : Nat} {low : Int} (p : Bool) (hK : low = -1074 + (K : Int)) (hlow : low ≤ 1100) (hu : size u ≤ cu) (hv : size v ≤ cu) (hc : cu ≤ 3000) (hcl : (cu : Int) + low ≤ 1199) :
    Ev (fun k => (sibylref01_Cmp.f k (U (norm u)) (U (norm v))).bind fun t441 => (if t441 = 0 then (some 0) else (if t441 > 0 then ((sibylref01_Minus.f k (U (norm u)) (U (norm v))).bind fun t442 => ((sibylref21_round.f k p t442 low false).bind fun t445 => (some t445))) else ((sibylref01_Minus.f k (U (norm v)) (U (norm u))).bind fun t446 => ((sibylref21_round.f k (!p) t446 low false).bind fun t449 => (some t449)))))) ((ansOf false (sgn p (u * 2 ^ K) + sgn (!p) (v * 2 ^ K)) : Nat) : Int) := by
  have n1 := norm_len_size (n := u) (c := 100) (by omega)
  have n2 := norm_len_size (n := v) (c := 100) (by omega)
  have hcmp := cmp_ev (lim_norm u) (lim_norm v) (by omega) (by omega)
  rw [val_norm, val_norm] at hcmp
  refine Ev.bind hcmp ?_
  clear hcmp
  rcases Nat.lt_trichotomy u v with hlt | heq | hgt
  · have hS : sgn p (u * 2 ^ K) + sgn (!p) (v * 2 ^ K) = sgn (!p) ((v - u) * 2 ^ K) := by
      have : u * 2 ^ K ≤ v * 2 ^ K := Nat.mul_le_mul_right _ (Nat.le_of_lt hlt)
      rw [Nat.sub_mul]
      unfold sgn
      cases p
      · simp only [Bool.not_false, Bool.false_eq_true, if_false, if_true]; omega
      · simp only [Bool.not_true, Bool.false_eq_true, if_false, if_true]; omega
    rw [hS, show (if u < v then (-1 : Int) else if u > v then 1 else 0) = -1 from if_pos hlt]
    have hmi := minus_ev (lim_norm v) (lim_norm u) (by omega) (by omega) (by rw [val_norm, val_norm]; exact Nat.le_of_lt hlt)
    rw [val_norm, val_norm] at hmi
    refine Ev.congr (fun k => by rw [if_neg (by decide), if_neg (by decide)]) ?_
    refine Ev.bind hmi ?_
    have hs1 := size_sub (v := u) hv
    exact last_step' (!p) hK hlow (by omega) (by omega) (by omega) false
  · subst heq
    have hS : sgn p (u * 2 ^ K) + sgn (!p) (u * 2 ^ K) = 0 := by
      unfold sgn
      cases p
      · simp only [Bool.not_false, Bool.false_eq_true, if_false, if_true]; omega
      · simp only [Bool.not_true, Bool.false_eq_true, if_false, if_true]; omega
    rw [hS]
    refine Ev.congr (f := fun _ => some 0) (fun k => if_pos (by rw [if_neg (Nat.lt_irrefl _), if_neg (Nat.lt_irrefl _)])) ?_
    exact Ev.now _
  · have hS : sgn p (u * 2 ^ K) + sgn (!p) (v * 2 ^ K) = sgn p ((u - v) * 2 ^ K) := by
      have : v * 2 ^ K ≤ u * 2 ^ K := Nat.mul_le_mul_right _ (Nat.le_of_lt hgt)
      rw [Nat.sub_mul]
      unfold sgn
      cases p
      · simp only [Bool.not_false, Bool.false_eq_true, if_false, if_true]; omega
      · simp only [Bool.not_true, Bool.false_eq_true, if_false, if_true]; omega
    rw [hS, show (if u < v then (-1 : Int) else if u > v then 1 else 0) = 1 from by rw [if_neg (Nat.not_lt.2 (Nat.le_of_lt hgt)), if_pos hgt]]
    have hmi := minus_ev (lim_norm u) (lim_norm v) (by omega) (by omega) (by rw [val_norm, val_norm]; exact Nat.le_of_lt hgt)
    rw [val_norm, val_norm] at hmi
    refine Ev.congr (fun k => by rw [if_neg (by decide), if_pos (by decide)]) ?_
    refine Ev.bind hmi ?_
    have hs1 := size_sub (v := v) hu
    exact last_step' p hK hlow (by omega) (by omega) (by omega) false
theorem natural_ev' {m : Nat} (hm : m < 18446744073709551616) : Ev (fun _ => sibylref21_natural.f (m : Int)) (U [m % 4294967296, m / 4294967296]) := ⟨0, fun _ _ => natural_ev hm⟩
theorem add_j2 {x : Nat} {p q : Bool} {m n : Nat} {e f low : Int} {A B : Nat} (hm : m < 9007199254740992) (hn : n < 9007199254740992) (he0 : -1074 ≤ e) (he1 : e ≤ 1100) (hf0 : -1074 ≤ f) (hf1 : f ≤ 1100) (hlow : min e f = low)
    (hA : m * 2 ^ (e + 1074).toNat = A) (hB : n * 2 ^ (f + 1074).toNat = B) (hx : A = 0 → x = signedW p 0) :
    Ev (fun k => sibylref21_Add.j2 k (x : Int) p (m : Int) e q (n : Int) f low) ((ansOf (p && q) (sgn p A + sgn q B) : Nat) : Int) := by
  obtain ⟨a, ha⟩ : ∃ a : Nat, e - low = (a : Int) := ⟨(e - low).toNat, by omega⟩
  obtain ⟨b, hb⟩ : ∃ b : Nat, f - low = (b : Int) := ⟨(f - low).toNat, by omega⟩
  obtain ⟨K, hK⟩ : ∃ K : Nat, low = -1074 + (K : Int) := ⟨(low + 1074).toNat, by omega⟩
  have hbu := (val_bound (n := a) (c := 96) hm (by omega)).1
  have hbv := (val_bound (n := b) (c := 96) hn (by omega)).1
  have hshu := shl_ev (natural_lim (m := m) (by omega)) (by simp) (n := a) (by omega)
  have hshv := shl_ev (natural_lim (m := n) (by omega)) (by simp) (n := b) (by omega)
  rw [natural_val] at hshu hshv
  obtain ⟨u, hu⟩ : ∃ u, m * 2 ^ a = u := ⟨_, rfl⟩
  obtain ⟨v, hv⟩ : ∃ v, n * 2 ^ b = v := ⟨_, rfl⟩
  have huA : u * 2 ^ K = A := by
    rw [← hu, ← hA, Nat.mul_assoc, ← Nat.pow_add, show a + K = (e + 1074).toNat by omega]
  have hvB : v * 2 ^ K = B := by
    rw [← hv, ← hB, Nat.mul_assoc, ← Nat.pow_add, show b + K = (f + 1074).toNat by omega]
  rw [hu] at hbu hshu
  rw [hv] at hbv hshv
  have hmaxc : (max (53 + a) (53 + b) : Nat) ≤ 3000 := by omega
  have hmaxl : ((max (53 + a) (53 + b) : Nat) : Int) + low ≤ 1199 := by omega
  have hlow1 : low ≤ 1100 := by omega
  have w1 : wrap64 (e - low) = (a : Int) := by rw [w64 (by omega) (by omega), ha]
  have w2 : wrap64 (f - low) = (b : Int) := by rw [w64 (by omega) (by omega), hb]
  have hm2 : m < 18446744073709551616 := by omega
  have hn2 : n < 18446744073709551616 := by omega
  clear hA hB hm hn
  refine Ev.step (f := _) (fun k => by simp only [sibylref21_Add.j2]; rfl) ?_
  rw [w1, w2]
  refine Ev.bind (natural_ev' hm2) (Ev.bind hshu (Ev.bind (natural_ev' hn2) (Ev.bind hshv ?_)))
  clear hshu hshv
  rw [← huA, ← hvB]
  by_cases hpq : p = q
  · subst hpq
    refine Ev.congr (fun k => if_neg (by simp)) ?_
    have hS : sgn p (u * 2 ^ K) + sgn p (v * 2 ^ K) = sgn p ((u + v) * 2 ^ K) := by
      rw [Nat.add_mul]
      unfold sgn; cases p
      · simp only [Bool.false_eq_true, if_false]; omega
      · simp only [if_true]; omega
    rw [hS, Bool.and_self]
    exact same_step p hK hlow1 (Nat.le_trans hbu (Nat.le_max_left _ _)) (Nat.le_trans hbv (Nat.le_max_right _ _)) hmaxc hmaxl (fun h => hx (by rw [← huA, show u = 0 by omega, Nat.zero_mul]))
  · obtain rfl : q = !p := by cases p <;> cases q <;> simp at hpq ⊢
    refine Ev.congr (fun k => if_pos (by cases p <;> simp)) ?_
    rw [show (p && !p) = false by cases p <;> rfl]
    exact opp_step p hK hlow1 (Nat.le_trans hbu (Nat.le_max_left _ _)) (Nat.le_trans hbv (Nat.le_max_right _ _)) hmaxc hmaxl
theorem add_fin_ev {x y : Nat} (hx : x < 18446744073709551616) (hy : y < 18446744073709551616) (fx : rung x < 9218868437227405312) (fy : rung y < 9218868437227405312) :
    Ev (fun k => sibylref21_Add.j1 k (x : Int) (y : Int) false false false) ((addC x y : Nat) : Int) := by
  obtain ⟨m, e, hm, he0, he1, hmv, hme⟩ := parts_val hx fx
  obtain ⟨n, f, hn, hf0, hf1, hnv, hnf⟩ := parts_val hy fy
  have hadd : addC x y = ansOf (sgB x && sgB y) (sgn (sgB x) (Fl.valOf (rung x)) + sgn (sgB y) (Fl.valOf (rung y))) := by
    unfold addC ansOf
    rw [add_fin hx hy fx fy]
    rfl
  rw [hadd]
  have core := add_j2 (x := x) (p := sgB x) (q := sgB y) hm hn he0 he1 hf0 hf1 rfl hmv hnv (fun h => by
    have hr0 := valOf_zero h
    have := word_eq hx
    rw [hr0] at this
    exact this)
  refine Ev.step (f := _) (fun k => by simp only [sibylref21_Add.j1]; rfl) ?_
  refine Ev.congr (fun k => by rw [if_neg (by decide), if_neg (by decide), if_neg (by decide)]) ?_
  refine Ev.bind hme (Ev.bind hnf ?_)
  by_cases hfe : f < e
  · refine Ev.congr (fun k => if_pos hfe) ?_
    rw [show min e f = f by omega] at core
    exact core
  · refine Ev.congr (fun k => if_neg hfe) ?_
    rw [show min e f = e by omega] at core
    exact core
end Go.Proofs.Ytjppanekddljbaa.Lb
/- The reference's Add and Total, of any floats. -/
namespace Go.Proofs.Ytjppanekddljbaa.Lb
open Go.RowKit Go.Proofs.Ytjppanekddljbaa.Pr Go.Proofs.YtjppanekddljbaaW.PrintWords Go.Proofs.YtjppanekddljbaaW.PrintLast Go.Proofs.YtjppanekddljbaaW.PrintMore
open Go.Proofs.Ytjppanekddljbaa.Fl Ieee Go.Proofs.Ytjppanekddljbaa.H
theorem add_nan_right {x y : Nat} (h : isNaN y = true) : double.add x y = none := by
  unfold isNaN at h
  simp only [decide_eq_true_eq] at h
  unfold Format.add
  rw [read_nan y h]
  cases double.read x <;> rfl
theorem size_ev (x : Nat) : sibylref03_Size.f (x : Int) = some ((rung x : Nat) : Int) := by unfold sibylref03_Size.f; rw [tmod63]; rfl
theorem word_inf {x : Nat} (hx : x < 18446744073709551616) (h : rung x = 9218868437227405312) : double.write (.infinity (sgB x)) = x := by
  rw [show double.write (.infinity (sgB x)) = double.word (sgB x) double.infRung from rfl, dinf]
  have := word_eq hx
  rw [h] at this
  rw [this]
  have e : sgB (signedW (sgB x) 9218868437227405312) = sgB x := by rw [← this]
  rw [e]
  simp only [Format.word, dsw, signedW]
theorem read_infw {x : Nat} (hx : x < 18446744073709551616) (h : rung x = 9218868437227405312) : double.read x = .infinity (sgB x) := by
  rw [read_inf x h, sgB_div hx]
theorem add_ev {x y : Nat} (hx : x < 18446744073709551616) (hy : y < 18446744073709551616) : Ev (fun k => sibylref21_Add.f k (x : Int) (y : Int)) ((addC x y : Nat) : Int) := by
  have hj0 : ∀ t : Bool, t = true → Ev (fun k => sibylref21_Add.j0 k (x : Int) (y : Int) t) 9221120237041090561 := fun t ht => by
    refine Ev.step (f := fun _ => some 9221120237041090561) (fun k => ?_) (Ev.now _)
    simp only [sibylref21_Add.j0]
    exact if_pos ht
  by_cases nx : isNaN x = true
  · have : addC x y = 9221120237041090561 := by unfold addC; rw [add_nan_left nx]; rfl
    rw [this]
    refine Ev.congr (f := fun k => sibylref21_Add.j0 k (x : Int) (y : Int) true) (fun k => ?_) (hj0 true rfl)
    unfold sibylref21_Add.f
    rw [isNaN_ev, nx]
    rfl
  · replace nx := Bool.eq_false_iff.mpr nx
    refine Ev.congr (f := fun k => sibylref21_Add.j0 k (x : Int) (y : Int) (isNaN y)) (fun k => ?_) ?_
    · unfold sibylref21_Add.f
      rw [isNaN_ev, isNaN_ev, nx]
      rfl
    · by_cases ny : isNaN y = true
      · have : addC x y = 9221120237041090561 := by unfold addC; rw [add_nan_right ny]; rfl
        rw [this]
        exact hj0 _ ny
      · replace ny := Bool.eq_false_iff.mpr ny
        rw [ny]
        have rx : rung x ≤ 9218868437227405312 := by unfold isNaN at nx; have := of_decide_eq_false nx; unfold rung; omega
        have ry : rung y ≤ 9218868437227405312 := by unfold isNaN at ny; have := of_decide_eq_false ny; unfold rung; omega
        have j0eq : ∀ k, sibylref21_Add.j0 (k + 1) (x : Int) (y : Int) false = if ((rung x : Nat) : Int) = 9218868437227405312 then (if ((rung y : Nat) : Int) = 9218868437227405312 then sibylref21_Add.j1 k (x : Int) (y : Int) (((rung x : Nat) : Int) == 9218868437227405312) (((rung y : Nat) : Int) == 9218868437227405312) ((x : Int) != (y : Int)) else sibylref21_Add.j1 k (x : Int) (y : Int) (((rung x : Nat) : Int) == 9218868437227405312) (((rung y : Nat) : Int) == 9218868437227405312) false) else sibylref21_Add.j1 k (x : Int) (y : Int) (((rung x : Nat) : Int) == 9218868437227405312) (((rung y : Nat) : Int) == 9218868437227405312) false := fun k => by
          simp only [sibylref21_Add.j0]
          rw [if_neg (by decide), size_ev, size_ev]
          rfl
        by_cases ix : rung x = 9218868437227405312
        · have bx : (((rung x : Nat) : Int) == 9218868437227405312) = true := beq_iff_eq.mpr (by omega)
          by_cases iy : rung y = 9218868437227405312
          · have by_ : (((rung y : Nat) : Int) == 9218868437227405312) = true := beq_iff_eq.mpr (by omega)
            have hadd : double.add x y = if sgB x = sgB y then some x else none := by
              unfold Format.add
              rw [read_infw hx ix, read_infw hy iy]
              simp only [Datum.sum]
              split
              · rw [Option.map_some, word_inf hx ix]
              · rfl
            by_cases hs : sgB x = sgB y
            · have hxy : x = y := by rw [word_eq hx, word_eq hy, hs, ix, iy]
              have : addC x y = x := by unfold addC; rw [hadd, if_pos hs]; rfl
              rw [this]
              refine Ev.step2 (f := fun _ => some (x : Int)) (fun k => ?_) (Ev.now _)
              rw [j0eq, if_pos (by omega), if_pos (by omega), bx, by_, show ((x : Int) != (y : Int)) = false from by rw [hxy]; simp]
              simp only [sibylref21_Add.j1]
              rw [if_neg (by decide), if_pos trivial]
            · have hne : ((x : Int) != (y : Int)) = true := by
                rw [bne_iff_ne]
                intro h
                exact hs (by rw [show x = y by omega])
              have : addC x y = 9221120237041090561 := by unfold addC; rw [hadd, if_neg hs]; rfl
              rw [this]
              refine Ev.step2 (f := fun _ => some 9221120237041090561) (fun k => ?_) (Ev.now _)
              rw [j0eq, if_pos (by omega), if_pos (by omega), hne]
              simp only [sibylref21_Add.j1]
              rw [if_pos trivial]
          · have hadd : double.add x y = some x := by
              unfold Format.add
              rw [read_infw hx ix, read_word hy (by omega)]
              simp only [Datum.sum]
              rw [Option.map_some, word_inf hx ix]
            have : addC x y = x := by unfold addC; rw [hadd]; rfl
            rw [this]
            refine Ev.step2 (f := fun _ => some (x : Int)) (fun k => ?_) (Ev.now _)
            rw [j0eq, if_pos (by omega), if_neg (by omega), bx]
            simp only [sibylref21_Add.j1]
            rw [if_neg (by decide), if_pos trivial]
        · have bx : (((rung x : Nat) : Int) == 9218868437227405312) = false := beq_eq_false_iff_ne.mpr (by omega)
          by_cases iy : rung y = 9218868437227405312
          · have by_ : (((rung y : Nat) : Int) == 9218868437227405312) = true := beq_iff_eq.mpr (by omega)
            have hadd : double.add x y = some y := by
              unfold Format.add
              rw [read_word hx (by omega), read_infw hy iy]
              simp only [Datum.sum]
              rw [Option.map_some, word_inf hy iy]
            have : addC x y = y := by unfold addC; rw [hadd]; rfl
            rw [this]
            refine Ev.step2 (f := fun _ => some (y : Int)) (fun k => ?_) (Ev.now _)
            rw [j0eq, if_neg (by omega), bx, by_]
            simp only [sibylref21_Add.j1]
            rw [if_neg (by decide), if_neg (by decide), if_pos trivial]
          · have by_ : (((rung y : Nat) : Int) == 9218868437227405312) = false := beq_eq_false_iff_ne.mpr (by omega)
            refine Ev.step (f := fun k => sibylref21_Add.j1 k (x : Int) (y : Int) false false false) (fun k => ?_) (add_fin_ev hx hy (by omega) (by omega))
            rw [j0eq, if_neg (by omega), bx, by_]
end Go.Proofs.Ytjppanekddljbaa.Lb
/- What the reference's Worth and At answer. -/
namespace Go.Proofs.Ytjppanekddljbaa.Lb
open Go.RowKit Go.Proofs.Ytjppanekddljbaa.Pr Go.Proofs.YtjppanekddljbaaW.PrintWords Go.Proofs.YtjppanekddljbaaW.PrintLast Go.Proofs.YtjppanekddljbaaW.PrintMore
open Go.Proofs.Ytjppanekddljbaa.Fl Ieee Go.Proofs.Ytjppanekddljbaa.H
theorem wrapu_id {z : Int} (h0 : 0 ≤ z) (h1 : z < 18446744073709551616) : IntKind.u64.wrap z = z := by
  exact wu64 h0 h1
theorem key_ev {x : Nat} (hx : x < 18446744073709551616) : sibylref10_Key.f (x : Int) = some (if isNaN x = true then (0 : Int) else if x ≥ 9223372036854775808 then (9218868437227405312 : Int) - ((rung x : Nat) : Int) + 1 else (9218868437227405312 : Int) + (x : Int) + 2 : Int) := by
  unfold sibylref10_Key.f
  rw [isNaN_ev, Option.bind_some]
  by_cases h : isNaN x = true
  · rw [if_pos h, if_pos h]
  · rw [if_neg h, if_neg h]
    have hr : ¬ (9218868437227405312 < rung x) := by
      unfold isNaN at h; simpa [rung] using h
    by_cases h2 : x ≥ 9223372036854775808
    · rw [if_pos (by omega), if_pos h2, size_ev, Option.bind_some, wrapu_id (z := 9218868437227405312 - ((rung x : Nat) : Int)) (by omega) (by omega), wrapu_id (by omega) (by omega)]
    · rw [if_neg (by omega), if_neg h2]
      have : rung x = x := by unfold rung; omega
      rw [wrapu_id (z := 9218868437227405312 + (x : Int)) (by omega) (by omega), wrapu_id (by omega) (by omega)]
theorem worth_ev {x : Nat} (hx : x < 18446744073709551616) : sibylref10_Worth.f (x : Int) = some ((worthF x : Nat) : Int) := by
  unfold sibylref10_Worth.f
  rw [key_ev hx, Option.bind_some]
  unfold worthF
  rw [show INF = 9218868437227405312 from rfl]
  by_cases h : isNaN x = true
  · rw [if_pos h, if_neg (by omega), if_neg]
    · rfl
    · unfold isNaN at h; simp only [decide_eq_true_eq] at h; omega
  · rw [if_neg h]
    have hr : ¬ (9218868437227405312 < rung x) := by
      unfold isNaN at h; simpa [rung] using h
    by_cases h2 : x ≥ 9223372036854775808
    · rw [if_pos h2, if_neg (by omega), if_neg (by omega)]; rfl
    · have : rung x = x := by unfold rung; omega
      rw [if_neg h2, if_pos (show x ≤ 9218868437227405312 by omega)]
      by_cases h3 : x = 0
      · subst h3; rfl
      · rw [if_pos (by omega)]
theorem one_ev (x : Nat) : sibylref03_One.f (x : Int) = some ((oneF x : Nat) : Int) := by
  unfold sibylref03_One.f oneF
  rw [isNaN_ev, Option.bind_some]
  split <;> rfl
theorem at_ev (l : List Nat) (turn i : Int) (hl : l.length ≤ 4611686018427387904) (ht : turn ≤ 9223372036854775807) (hi : i ≤ 9223372036854775807) :
    sibylref10_At.f (U l) turn i = some ((atF l turn i : Nat) : Int) := by
  unfold sibylref10_At.f atF
  rw [U_length]
  by_cases h0 : l.length = 0
  · rw [if_pos (by omega), if_pos (.inl h0)]; rfl
  · rw [if_neg (by omega)]
    by_cases h1 : turn < 0
    · rw [if_pos h1, if_pos (.inr (.inl h1))]; rfl
    · rw [if_neg h1]
      by_cases h2 : i < 0
      · rw [if_pos h2, if_pos (.inr (.inr h2))]; rfl
      · rw [if_neg h2, if_neg (show ¬(l.length = 0 ∨ turn < 0 ∨ i < 0) by omega), Int.tmod_eq_emod_of_nonneg (by omega : 0 ≤ turn), Int.tmod_eq_emod_of_nonneg (by omega : 0 ≤ i)]
        have a1 := Int.emod_nonneg turn (by omega : (l.length : Int) ≠ 0)
        have a2 := Int.emod_lt_of_pos turn (by omega : (0 : Int) < (l.length : Int))
        have a3 := Int.emod_nonneg i (by omega : (l.length : Int) ≠ 0)
        have a4 := Int.emod_lt_of_pos i (by omega : (0 : Int) < (l.length : Int))
        generalize turn % (l.length : Int) = p at *
        generalize i % (l.length : Int) = q at *
        have hw : wrap64 (p + q) = p + q := by unfold wrap64; omega
        rw [hw, Int.tmod_eq_emod_of_nonneg (by omega : 0 ≤ p + q)]
        have a5 := Int.emod_nonneg (p + q) (by omega : (l.length : Int) ≠ 0)
        have a6 := Int.emod_lt_of_pos (p + q) (by omega : (0 : Int) < (l.length : Int))
        generalize (p + q) % (l.length : Int) = z at *
        obtain ⟨n, rfl⟩ : ∃ n : Nat, z = (n : Int) := ⟨z.toNat, by omega⟩
        rw [if_pos (by omega), if_pos (by omega), rd_U, one_ev]
        rfl
end Go.Proofs.Ytjppanekddljbaa.Lb
/- What the kit's print wrote for these functions, taken together by wip/pick.py: each function's Lean function and that the Go code comes to it. -/
namespace Go.Proofs.Ytjppanekddljbaa.Pr
open Go.RowKit Go.Proofs.YtjppanekddljbaaW.PrintWords Go.Proofs.YtjppanekddljbaaW.PrintLast Go.Proofs.YtjppanekddljbaaW.PrintMore
attribute [local go_sem] max2_int min2_int max_two min_two max_three min_three max_four min_four
mutual
def sibylref01_Times.l0 : Nat → List Int → List Int → List Int → Int → Option (List Int)
 | 0, _, _, _, _ => none
 | k + 1, x5, x6, x7, x8 => if x8 < (x5.length : Int) then (sibylref01_Times.l1 k x5 x6 x7 x8 0 0) else ((sibylref01_Trim.f k x7).bind fun t549 => (some t549))
def sibylref01_Times.l1 : Nat → List Int → List Int → List Int → Int → Int → Int → Option (List Int)
 | 0, _, _, _, _, _, _ => none
 | k + 1, x5, x6, x7, x8, x9, x10 => if x10 < (x6.length : Int) then (if 0 ≤ (wrap64 (x8 + x10)) then (if (wrap64 (x8 + x10)) < (x7.length : Int) then (if 0 ≤ x8 then (if x8 < (x5.length : Int) then (if 0 ≤ x10 then (sibylref01_Times.l1 k x5 x6 (x7.set ((wrap64 (x8 + x10)) : Int).toNat ((Int.tmod (IntKind.u64.wrap (x9 + (IntKind.u64.wrap ((IntKind.u64.wrap (rd x7 (wrap64 (x8 + x10)))) + (IntKind.u64.wrap ((IntKind.u64.wrap (rd x5 x8)) * (IntKind.u64.wrap (rd x6 x10)))))))) 4294967296) % 4294967296)) x8 (IntKind.u64.wrap (Int.tdiv (IntKind.u64.wrap (x9 + (IntKind.u64.wrap ((IntKind.u64.wrap (rd x7 (wrap64 (x8 + x10)))) + (IntKind.u64.wrap ((IntKind.u64.wrap (rd x5 x8)) * (IntKind.u64.wrap (rd x6 x10)))))))) 4294967296)) (wrap64 (x10 + 1))) else (none)) else (none)) else (none)) else (none)) else (none)) else (if 0 ≤ (wrap64 (x8 + (x6.length : Int))) then (if (wrap64 (x8 + (x6.length : Int))) < (x7.length : Int) then (sibylref01_Times.l0 k x5 x6 (x7.set ((wrap64 (x8 + (x6.length : Int))) : Int).toNat ((x9) % 4294967296)) (wrap64 (x8 + 1))) else (none)) else (none))
end
def sibylref01_Times.f (k : Nat) (l0 : List Int) (l1 : List Int) : Option (List Int) := (sibylref01_Trim.f k l0).bind fun t540 => ((sibylref01_Trim.f k l1).bind fun t543 => (if 0 ≤ (wrap64 ((wrap64 ((t540.length : Int) + (t543.length : Int))) + 1)) then (if (wrap64 ((wrap64 ((t540.length : Int) + (t543.length : Int))) + 1) : Int).toNat ≤ 70368744177664 then (sibylref01_Times.l0 k t540 t543 (List.replicate (wrap64 ((wrap64 ((t540.length : Int) + (t543.length : Int))) + 1) : Int).toNat 0) 0) else (none)) else (none)))
set_option maxHeartbeats 8000000 in
set_option maxRecDepth 100000 in
theorem sibylref01_Times.calls (k : Nat) (A0 : Option Addr) (c0 : Nat) (l0 : List Int) (A1 : Option Addr) (c1 : Nat) (l1 : List Int) (r : List Int) (w : World) (hr0 : Kd.C (Kd.int .u32) w A0 l0.length l0) (hc0 : l0.length ≤ c0) (hr1 : Kd.C (Kd.int .u32) w A1 l1.length l1) (hc1 : l1.length ≤ c1) (h : sibylref01_Times.f k l0 l1 = some r) :
  Calls Try.prog 62 #[.slice A0 l0.length c0, .slice A1 l1.length c1] w fun e w' => ∃ v0_ : Value, e = .returned (v0_) ∧ Kd.R (Kd.int .u32) 99 w' w.heap.size (fun _ => True) v0_ r ∧ Below w.heap.size w w' := by
 have HR0 := Aside0.mk hr0
 have HC0 := Aside0.mk hc0
 clear hr0 hc0
 have HR1 := Aside0.mk hr1
 have HC1 := Aside0.mk hc1
 clear hr1 hc1
 have HB := Aside0.mk (Below.refl w.heap.size w)
 have H : ((sibylref01_Trim.f k l0).bind fun t540 => ((sibylref01_Trim.f k l1).bind fun t543 => (if 0 ≤ (wrap64 ((wrap64 ((t540.length : Int) + (t543.length : Int))) + 1)) then (if (wrap64 ((wrap64 ((t540.length : Int) + (t543.length : Int))) + 1) : Int).toNat ≤ 70368744177664 then (sibylref01_Times.l0 k t540 t543 (List.replicate (wrap64 ((wrap64 ((t540.length : Int) + (t543.length : Int))) + 1) : Int).toNat 0) 0) else (none)) else (none)))) = some r := h
 clear h
 obtain ⟨t540, A3, H⟩ := bindA H
 obtain ⟨t543, A4, H⟩ := bindA H
 obtain ⟨ji5, hji5⟩ : ∃ j_ : Int, (wrap64 ((wrap64 ((t540.length : Int) + (t543.length : Int))) + 1)) = j_ := ⟨_, rfl⟩
 replace H : (if 0 ≤ (ji5) then (if (ji5 : Int).toNat ≤ 70368744177664 then (sibylref01_Times.l0 k t540 t543 (List.replicate (ji5 : Int).toNat 0) 0) else (none)) else (none)) = some r := by first | (rw [hji5] at H; exact H) | (simp only [hji5] at H ⊢; exact H)
 (try rw [hji5] at A3)
 (try rw [hji5] at A4)
 have hji5w : (IntKind.i64.wrap ((wrap64 ((t540.length : Int) + (t543.length : Int))) + 1)) = ji5 := (i64_w _).trans hji5
 by_cases c6 : 0 ≤ (ji5)
 ·rw [if_pos c6] at H
  have c6b0 := eq_true c6
  have c6b1 : decide (0 ≤ (ji5)) = true := decide_eq_true c6
  clear c6
  by_cases c7 : (ji5 : Int).toNat ≤ 70368744177664
  ·rw [if_pos c7] at H
   have c7b0 := eq_true c7
   have c7b1 : decide ((ji5 : Int).toNat ≤ 70368744177664) = true := decide_eq_true c7
   clear c7
   obtain ⟨y546, hy546⟩ : ∃ y_ : List Int, y_ = (List.replicate (ji5 : Int).toNat 0) := ⟨_, rfl⟩
   replace H : (sibylref01_Times.l0 k t540 t543 y546 0) = some r := by rw [hy546]; exact H
   have Ny546 := Aside0.mk hy546
   clear hy546
   have H' := Aside0.mk H
   clear H
   go_enter Try.func62, Try.ntmps62
   go_wp2_with (first | (go_at_call 83; (with_reducible refine (sibylref01_Trim.calls k _ _ l0 t540 _ ?side1 ?side2 A3.out).mono ?_); (case side1 => exact ca HR0.out); (case side2 => exact HC0.out); rintro e w8 ⟨v541, rfl, ho0, hb⟩; have n_ := mk2 (Kd.R_lower ho0 (below_size (bl HB))) (below_step (bl HB) hb); clear HB; obtain ⟨HO542, HB⟩ := n_; (try clear hb); (try clear hb2); (try clear hk); (try clear hi); (try clear ho0)) | (go_at_call 83; (with_reducible refine (sibylref01_Trim.calls k _ _ l1 t543 _ ?side1 ?side2 A4.out).mono ?_); (case side1 => exact ca (Kd.C_below HR1.out HB.out)); (case side2 => exact HC1.out); rintro e w9 ⟨v544, rfl, ho0, hb⟩; have n_ := mk3 (Kd.R_elder' (ra HO542.out) (Kd.R_base ho0) hb) (Kd.R_lower (Kd.R_new' ho0 (Kd.R_lt (ra HO542.out))) (below_size (bl HB))) (below_step (bl HB) hb); clear HO542 HB; obtain ⟨HO542, HO545, HB⟩ := n_; (try clear hb); (try clear hb2); (try clear hk); (try clear hi); (try clear ho0); obtain ⟨Ao10, co10, eo10⟩ := Kd.R_slice HO542.out; subst eo10; obtain ⟨Ao11, co11, eo11⟩ := Kd.R_slice HO545.out; subst eo11) | ((with_reducible refine gate_dst (N := 21) rfl ?_); refine Kd.R_make (Kd.int .u32) _ 99 rfl (N := 21) rfl 34 _ _ rfl ji5 rfl rfl Try.underlying34 (.int .u32 0) 4 info99 rfl (by decide) (by omega) 0 (ok := fun _ => True) (okp := fun _ => True) rfl (fun _ hk => hk) trivial (of_decide_eq_true (by first | (with_reducible assumption) | assumption)) (Nat.le_trans (Nat.mul_le_mul_right _ (of_decide_eq_true (by first | (with_reducible assumption) | assumption) : ji5.toNat ≤ 70368744177664)) (by omega)) (Below.refl _ _) (Nat.le_refl _) ?_; intro v547 w12 ho13 hb hg_ hnew_; clear hg_ hnew_; (first | rw [← Ny546.out] at ho13 | (simp only [Int.reduceToNat] at ho13; rw [← Ny546.out] at ho13)); have n_ := mk4 (Kd.R_elder' (ra HO542.out) (Kd.R_base ho13) hb) (Kd.R_elder' (ra HO545.out) (Kd.R_base ho13) hb) (Kd.R_lower (Kd.R_new' (Kd.R_new' ho13 (Kd.R_lt (ra HO542.out))) (Kd.R_lt (ra HO545.out))) (below_size (bl HB))) (below_step (bl HB) hb); clear HO542 HO545 HB; obtain ⟨HO542, HO545, HO548, HB⟩ := n_; clear hb ho13))
   repeat (go_quiet (first | (go_at_call 83; (with_reducible refine (sibylref01_Trim.calls k _ _ l0 t540 _ ?side1 ?side2 A3.out).mono ?_); (case side1 => exact ca HR0.out); (case side2 => exact HC0.out); rintro e w8 ⟨v541, rfl, ho0, hb⟩; have n_ := mk2 (Kd.R_lower ho0 (below_size (bl HB))) (below_step (bl HB) hb); clear HB; obtain ⟨HO542, HB⟩ := n_; (try clear hb); (try clear hb2); (try clear hk); (try clear hi); (try clear ho0)) | (go_at_call 83; (with_reducible refine (sibylref01_Trim.calls k _ _ l1 t543 _ ?side1 ?side2 A4.out).mono ?_); (case side1 => exact ca (Kd.C_below HR1.out HB.out)); (case side2 => exact HC1.out); rintro e w9 ⟨v544, rfl, ho0, hb⟩; have n_ := mk3 (Kd.R_elder' (ra HO542.out) (Kd.R_base ho0) hb) (Kd.R_lower (Kd.R_new' ho0 (Kd.R_lt (ra HO542.out))) (below_size (bl HB))) (below_step (bl HB) hb); clear HO542 HB; obtain ⟨HO542, HO545, HB⟩ := n_; (try clear hb); (try clear hb2); (try clear hk); (try clear hi); (try clear ho0); obtain ⟨Ao10, co10, eo10⟩ := Kd.R_slice HO542.out; subst eo10; obtain ⟨Ao11, co11, eo11⟩ := Kd.R_slice HO545.out; subst eo11) | ((with_reducible refine gate_dst (N := 21) rfl ?_); refine Kd.R_make (Kd.int .u32) _ 99 rfl (N := 21) rfl 34 _ _ rfl ji5 rfl rfl Try.underlying34 (.int .u32 0) 4 info99 rfl (by decide) (by omega) 0 (ok := fun _ => True) (okp := fun _ => True) rfl (fun _ hk => hk) trivial (of_decide_eq_true (by first | (with_reducible assumption) | assumption)) (Nat.le_trans (Nat.mul_le_mul_right _ (of_decide_eq_true (by first | (with_reducible assumption) | assumption) : ji5.toNat ≤ 70368744177664)) (by omega)) (Below.refl _ _) (Nat.le_refl _) ?_; intro v547 w12 ho13 hb hg_ hnew_; clear hg_ hnew_; (first | rw [← Ny546.out] at ho13 | (simp only [Int.reduceToNat] at ho13; rw [← Ny546.out] at ho13)); have n_ := mk4 (Kd.R_elder' (ra HO542.out) (Kd.R_base ho13) hb) (Kd.R_elder' (ra HO545.out) (Kd.R_base ho13) hb) (Kd.R_lower (Kd.R_new' (Kd.R_new' ho13 (Kd.R_lt (ra HO542.out))) (Kd.R_lt (ra HO545.out))) (below_size (bl HB))) (below_step (bl HB) hb); clear HO542 HO545 HB; obtain ⟨HO542, HO545, HO548, HB⟩ := n_; clear hb ho13)); try go_wp2_with (first | (go_at_call 83; (with_reducible refine (sibylref01_Trim.calls k _ _ l0 t540 _ ?side1 ?side2 A3.out).mono ?_); (case side1 => exact ca HR0.out); (case side2 => exact HC0.out); rintro e w8 ⟨v541, rfl, ho0, hb⟩; have n_ := mk2 (Kd.R_lower ho0 (below_size (bl HB))) (below_step (bl HB) hb); clear HB; obtain ⟨HO542, HB⟩ := n_; (try clear hb); (try clear hb2); (try clear hk); (try clear hi); (try clear ho0)) | (go_at_call 83; (with_reducible refine (sibylref01_Trim.calls k _ _ l1 t543 _ ?side1 ?side2 A4.out).mono ?_); (case side1 => exact ca (Kd.C_below HR1.out HB.out)); (case side2 => exact HC1.out); rintro e w9 ⟨v544, rfl, ho0, hb⟩; have n_ := mk3 (Kd.R_elder' (ra HO542.out) (Kd.R_base ho0) hb) (Kd.R_lower (Kd.R_new' ho0 (Kd.R_lt (ra HO542.out))) (below_size (bl HB))) (below_step (bl HB) hb); clear HO542 HB; obtain ⟨HO542, HO545, HB⟩ := n_; (try clear hb); (try clear hb2); (try clear hk); (try clear hi); (try clear ho0); obtain ⟨Ao10, co10, eo10⟩ := Kd.R_slice HO542.out; subst eo10; obtain ⟨Ao11, co11, eo11⟩ := Kd.R_slice HO545.out; subst eo11) | ((with_reducible refine gate_dst (N := 21) rfl ?_); refine Kd.R_make (Kd.int .u32) _ 99 rfl (N := 21) rfl 34 _ _ rfl ji5 rfl rfl Try.underlying34 (.int .u32 0) 4 info99 rfl (by decide) (by omega) 0 (ok := fun _ => True) (okp := fun _ => True) rfl (fun _ hk => hk) trivial (of_decide_eq_true (by first | (with_reducible assumption) | assumption)) (Nat.le_trans (Nat.mul_le_mul_right _ (of_decide_eq_true (by first | (with_reducible assumption) | assumption) : ji5.toNat ≤ 70368744177664)) (by omega)) (Below.refl _ _) (Nat.le_refl _) ?_; intro v547 w12 ho13 hb hg_ hnew_; clear hg_ hnew_; (first | rw [← Ny546.out] at ho13 | (simp only [Int.reduceToNat] at ho13; rw [← Ny546.out] at ho13)); have n_ := mk4 (Kd.R_elder' (ra HO542.out) (Kd.R_base ho13) hb) (Kd.R_elder' (ra HO545.out) (Kd.R_base ho13) hb) (Kd.R_lower (Kd.R_new' (Kd.R_new' ho13 (Kd.R_lt (ra HO542.out))) (Kd.R_lt (ra HO545.out))) (below_size (bl HB))) (below_step (bl HB) hb); clear HO542 HO545 HB; obtain ⟨HO542, HO545, HO548, HB⟩ := n_; clear hb ho13)))
   go_loopg [8] k (fun kq v8 w' => ∃ (x7_1 : List Int) (x8_1 : Int), v8 = .int .i64 x8_1 ∧ Aside0 (sibylref01_Times.l0 kq t540 t543 x7_1 x8_1 = some r) ∧ Aside0 (kq ≤ k) ∧ Aside0 (Kd.R (Kd.int .u32) 99 w' w.heap.size (fun k_ => some k_ ≠ ((.slice Ao11 t543.length co11) : Value).ownBlock ∧ some k_ ≠ (v547 : Value).ownBlock) (.slice Ao10 t540.length co10) t540) ∧ Aside0 (Kd.R (Kd.int .u32) 99 w' w.heap.size (fun k_ => some k_ ≠ ((.slice Ao10 t540.length co10) : Value).ownBlock ∧ some k_ ≠ (v547 : Value).ownBlock) (.slice Ao11 t543.length co11) t543) ∧ Aside0 (Kd.R (Kd.int .u32) 99 w' w.heap.size (fun k_ => some k_ ≠ ((.slice Ao10 t540.length co10) : Value).ownBlock ∧ some k_ ≠ ((.slice Ao11 t543.length co11) : Value).ownBlock) v547 x7_1) ∧ Aside0 (Below w.heap.size w w'))
   case atStart => exact ⟨(y546), (0), (by first | rfl | (simp; done) | (simp [*]; done)), H', ⟨Nat.le_refl _⟩, ⟨ra (Kd.R_mono HO542.out (fun _ hk => ⟨hk.1.2, hk.2⟩))⟩, ⟨ra (Kd.R_mono HO545.out (fun _ hk => ⟨hk.1.2, hk.2⟩))⟩, ⟨ra (Kd.R_mono HO548.out (fun _ hk => ⟨hk.1.2, hk.2⟩))⟩, ⟨bl HB⟩⟩
   case round =>
    clear H'
    try clear c1
    try clear p2
    try clear c6
    try clear c6b0
    try clear c6b1
    try clear p6
    try clear c7
    try clear c7b0
    try clear c7b1
    obtain ⟨x7_1, x8_1, rfl, HA, HK1, HO_5, HO_6, HO_7, HB⟩ := hrel
    cases gk with
    | zero => exact absurd HA.out (by simp [sibylref01_Times.l0])
    | succ k1 =>
     have H := HA.out
     clear HA
     simp only [sibylref01_Times.l0] at H
     by_cases c14 : x8_1 < (t540.length : Int)
     ·rw [if_pos c14] at H
      have c14b0 : decide (x8_1 < (t540.length : Int)) = true := decide_eq_true c14
      clear c14
      have H' := Aside0.mk H
      clear H
      go_wp2
      repeat (go_quiet (fail); try go_wp2)
      go_loopg [9, 10] k1 (fun kq v9 v10 w' => ∃ (x7_2 : List Int) (x9_2 : Int) (x10_2 : Int), v9 = .int .u64 x9_2 ∧ v10 = .int .i64 x10_2 ∧ Aside0 (sibylref01_Times.l1 kq t540 t543 x7_2 x8_1 x9_2 x10_2 = some r) ∧ Aside0 (kq ≤ k1) ∧ Aside0 (Kd.R (Kd.int .u32) 99 w' w.heap.size (fun k_ => some k_ ≠ ((.slice Ao11 t543.length co11) : Value).ownBlock ∧ some k_ ≠ (v547 : Value).ownBlock) (.slice Ao10 t540.length co10) t540) ∧ Aside0 (Kd.R (Kd.int .u32) 99 w' w.heap.size (fun k_ => some k_ ≠ ((.slice Ao10 t540.length co10) : Value).ownBlock ∧ some k_ ≠ (v547 : Value).ownBlock) (.slice Ao11 t543.length co11) t543) ∧ Aside0 (Kd.R (Kd.int .u32) 99 w' w.heap.size (fun k_ => some k_ ≠ ((.slice Ao10 t540.length co10) : Value).ownBlock ∧ some k_ ≠ ((.slice Ao11 t543.length co11) : Value).ownBlock) v547 x7_2) ∧ Aside0 (Below w.heap.size w w'))
      case atStart => exact ⟨(x7_1), (0), (0), (by first | rfl | (simp; done) | (simp [*]; done)), (by first | rfl | (simp; done) | (simp [*]; done)), H', ⟨Nat.le_refl _⟩, ⟨ra HO_5.out⟩, ⟨ra HO_6.out⟩, ⟨ra HO_7.out⟩, ⟨bl HB⟩⟩
      case round =>
       clear H'
       try clear c1
       try clear p2
       try clear c6
       try clear c6b0
       try clear c6b1
       try clear p6
       try clear c7
       try clear c7b0
       try clear c7b1
       try clear c14
       try clear c14b0
       try clear p2
       try clear p6
       obtain ⟨x7_2, x9_2, x10_2, rfl, rfl, HA, HK2, HO_5, HO_6, HO_7, HB⟩ := hrel
       cases gk with
       | zero => exact absurd HA.out (by simp [sibylref01_Times.l1])
       | succ k2 =>
        have H := HA.out
        clear HA
        simp only [sibylref01_Times.l1] at H
        by_cases c15 : x10_2 < (t543.length : Int)
        ·rw [if_pos c15] at H
         have c15b0 : decide (x10_2 < (t543.length : Int)) = true := decide_eq_true c15
         clear c15
         obtain ⟨ji16, hji16⟩ : ∃ j_ : Int, (wrap64 (x8_1 + x10_2)) = j_ := ⟨_, rfl⟩
         replace H : (if 0 ≤ (ji16) then (if (ji16) < (x7_2.length : Int) then (if 0 ≤ x8_1 then (if x8_1 < (t540.length : Int) then (if 0 ≤ x10_2 then (sibylref01_Times.l1 k2 t540 t543 (x7_2.set ((ji16) : Int).toNat ((Int.tmod (IntKind.u64.wrap (x9_2 + (IntKind.u64.wrap ((IntKind.u64.wrap (rd x7_2 (ji16))) + (IntKind.u64.wrap ((IntKind.u64.wrap (rd t540 x8_1)) * (IntKind.u64.wrap (rd t543 x10_2)))))))) 4294967296) % 4294967296)) x8_1 (IntKind.u64.wrap (Int.tdiv (IntKind.u64.wrap (x9_2 + (IntKind.u64.wrap ((IntKind.u64.wrap (rd x7_2 (ji16))) + (IntKind.u64.wrap ((IntKind.u64.wrap (rd t540 x8_1)) * (IntKind.u64.wrap (rd t543 x10_2)))))))) 4294967296)) (wrap64 (x10_2 + 1))) else (none)) else (none)) else (none)) else (none)) else (none)) = some r := by first | (rw [hji16] at H; exact H) | (simp only [hji16] at H ⊢; exact H)
         have hji16w : (IntKind.i64.wrap (x8_1 + x10_2)) = ji16 := (i64_w _).trans hji16
         by_cases c17 : 0 ≤ (ji16)
         ·rw [if_pos c17] at H
          have c17b0 : decide (0 ≤ (ji16)) = true := decide_eq_true c17
          clear c17
          by_cases c18 : (ji16) < (x7_2.length : Int)
          ·rw [if_pos c18] at H
           have c18b0 : decide ((ji16) < (x7_2.length : Int)) = true := decide_eq_true c18
           clear c18
           by_cases c19 : 0 ≤ x8_1
           ·rw [if_pos c19] at H
            have c19b0 : decide (0 ≤ x8_1) = true := decide_eq_true c19
            clear c19
            by_cases c20 : x8_1 < (t540.length : Int)
            ·rw [if_pos c20] at H
             have c20b0 : decide (x8_1 < (t540.length : Int)) = true := decide_eq_true c20
             clear c20
             by_cases c21 : 0 ≤ x10_2
             ·rw [if_pos c21] at H
              have c21b0 : decide (0 ≤ x10_2) = true := decide_eq_true c21
              clear c21
              obtain ⟨y555, hy555⟩ : ∃ y_ : List Int, y_ = (x7_2.set ((ji16) : Int).toNat ((Int.tmod (IntKind.u64.wrap (x9_2 + (IntKind.u64.wrap ((IntKind.u64.wrap (rd x7_2 (ji16))) + (IntKind.u64.wrap ((IntKind.u64.wrap (rd t540 x8_1)) * (IntKind.u64.wrap (rd t543 x10_2)))))))) 4294967296) % 4294967296)) := ⟨_, rfl⟩
              replace H : (sibylref01_Times.l1 k2 t540 t543 y555 x8_1 (IntKind.u64.wrap (Int.tdiv (IntKind.u64.wrap (x9_2 + (IntKind.u64.wrap ((IntKind.u64.wrap (rd x7_2 (ji16))) + (IntKind.u64.wrap ((IntKind.u64.wrap (rd t540 x8_1)) * (IntKind.u64.wrap (rd t543 x10_2)))))))) 4294967296)) (wrap64 (x10_2 + 1))) = some r := by rw [hy555]; exact H
              have Ny555 := Aside0.mk hy555
              clear hy555
              have H' := Aside0.mk H
              clear H
              obtain ⟨Ao23, co23, eo23⟩ := Kd.R_slice HO_7.out
              subst eo23
              have p552 : 0 ≤ ((ji16) : Int) := of_decide_eq_true (by first | (with_reducible assumption) | assumption)
              have q552 : (ji16) < (x7_2.length : Int) := of_decide_eq_true (by first | (with_reducible assumption) | assumption)
              obtain ⟨ad552, e552, hx552_0⟩ := Kd.at_int (Kd.R_reads' HO_7.out).2.2 (ji16) p552 q552
              cases e552
              replace p552 := eq_true p552
              replace q552 := eq_true q552
              have p553 : 0 ≤ (x8_1 : Int) := of_decide_eq_true (by first | (with_reducible assumption) | assumption)
              have q553 : x8_1 < (t540.length : Int) := of_decide_eq_true (by first | (with_reducible assumption) | assumption)
              obtain ⟨ad553, e553, hx553_0⟩ := Kd.at_int (Kd.R_reads' HO_5.out).2.2 x8_1 p553 q553
              cases e553
              replace p553 := eq_true p553
              replace q553 := eq_true q553
              have p554 : 0 ≤ (x10_2 : Int) := of_decide_eq_true (by first | (with_reducible assumption) | assumption)
              have q554 : x10_2 < (t543.length : Int) := of_decide_eq_true (by first | (with_reducible assumption) | assumption)
              obtain ⟨ad554, e554, hx554_0⟩ := Kd.at_int (Kd.R_reads' HO_6.out).2.2 x10_2 p554 q554
              cases e554
              replace p554 := eq_true p554
              replace q554 := eq_true q554
              have p22 : 0 ≤ ((ji16) : Int) := of_decide_eq_true (by first | (with_reducible assumption) | assumption)
              have q22 : ((ji16) : Int) < ((x7_2.length : Int) : Int) := of_decide_eq_true (by first | (with_reducible assumption) | assumption)
              obtain ⟨go22, co22, eo22, gb22, gl22, cl22, HG22⟩ := Kd.R_form HO_7.out (by omega)
              (first | cases eo22 | (injection eo22 with ea_ en_ ec_; (first | subst ea_ | (injection ea_ with ea_; subst ea_)); subst ec_; clear en_))
              have GB22 := Aside0.mk gb22
              have GG22 := Aside0.mk HG22
              clear gb22 gl22 HG22
              (first | simp only [add_plain] at hx552_0 | skip)
              obtain ⟨hx22_0, hf22_0⟩ := Kd.R_celln 0 HO_7.out ((ji16) : Int) p22 q22
              replace p22 := eq_true p22
              replace q22 := eq_true q22
              have HP24 := Kd.R_putg HO_7.out ((ji16) : Int) ((Int.tmod (IntKind.u64.wrap (x9_2 + (IntKind.u64.wrap ((IntKind.u64.wrap (rd x7_2 (ji16))) + (IntKind.u64.wrap ((IntKind.u64.wrap (rd t540 x8_1)) * (IntKind.u64.wrap (rd t543 x10_2)))))))) 4294967296) % 4294967296)
              go_wp2_with (first | ((with_reducible refine gate_store (t := 99) (p := 62) rfl ?_); (try (rw [drewN_self wr]; generalize hq_ : World.drewN wr _ = wr; have n0_ := Aside0.mk (Kd.R_at hq_ HO_5.out); have n1_ := Aside0.mk (Kd.R_at hq_ HO_6.out); have n2_ := Aside0.mk (Kd.R_at hq_ HO_7.out); have n3_ := Aside0.mk (below_at hq_ HB.out); clear hq_ HO_5 HO_6 HO_7 HB; have HO_5 := n0_; have HO_6 := n1_; have HO_7 := n2_; have HB := n3_; clear n0_ n1_ n2_ n3_; (try (have HP24 := Kd.R_putg HO_7.out ((ji16) : Int) ((Int.tmod (IntKind.u64.wrap (x9_2 + (IntKind.u64.wrap ((IntKind.u64.wrap (rd x7_2 (ji16))) + (IntKind.u64.wrap ((IntKind.u64.wrap (rd t540 x8_1)) * (IntKind.u64.wrap (rd t543 x10_2)))))))) 4294967296) % 4294967296))))); refine store_event (t := 99) (p := 62) (v := ?vo_w25) (w1 := (wr.setCell ⟨go22, ((ji16) : Int).toNat, none⟩ (.int .u32 ((Int.tmod (IntKind.u64.wrap (x9_2 + (IntKind.u64.wrap ((IntKind.u64.wrap (rd x7_2 (ji16))) + (IntKind.u64.wrap ((IntKind.u64.wrap (rd t540 x8_1)) * (IntKind.u64.wrap (rd t543 x10_2)))))))) 4294967296) % 4294967296)))) ?hg ?ho ?hn ?hr ?_; (case ho => rfl); (case hg => rfl); (case hn => rfl); (case hr => first | (go_simp; done) | (go_simp; rfl)); intro w25 hw; have hg : wr.grownBy w25 (some go22) := (by rw [hw]; exact HP24.2); have hp_ : Kd.R (Kd.int .u32) 99 w25 w.heap.size (fun k_ => some k_ ≠ (.slice (some ad553) t540.length co10 : Value).ownBlock ∧ some k_ ≠ (.slice (some ad554) t543.length co11 : Value).ownBlock) (.slice (some ⟨go22, 0, none⟩) x7_2.length co23) y555 := (by rw [hw, Ny555.out]; exact HP24.1); clear HP24; have n_ := mk4 (Kd.R_after (v := (.slice (some ⟨go22, 0, none⟩) x7_2.length co23)) (v1 := (.slice (some ⟨go22, 0, none⟩) x7_2.length co23)) (ok := (fun k_ => some k_ ≠ (.slice (some ad554) t543.length co11 : Value).ownBlock)) (ra HO_5.out) hg (.inl rfl)) (Kd.R_after (v := (.slice (some ⟨go22, 0, none⟩) x7_2.length co23)) (v1 := (.slice (some ⟨go22, 0, none⟩) x7_2.length co23)) (ok := (fun k_ => some k_ ≠ (.slice (some ad553) t540.length co10 : Value).ownBlock)) (ra HO_6.out) hg (.inl rfl)) (hp_) ((by rw [hw]; exact below_set (HB.out) GB22.out : Below w.heap.size w w25)); clear HO_5 HO_6 HO_7 HB; obtain ⟨HO_5, HO_6, HO_7, HB⟩ := n_; clear hg hw hp_))
              repeat (go_quiet (first | ((with_reducible refine gate_store (t := 99) (p := 62) rfl ?_); (try (rw [drewN_self wr]; generalize hq_ : World.drewN wr _ = wr; have n0_ := Aside0.mk (Kd.R_at hq_ HO_5.out); have n1_ := Aside0.mk (Kd.R_at hq_ HO_6.out); have n2_ := Aside0.mk (Kd.R_at hq_ HO_7.out); have n3_ := Aside0.mk (below_at hq_ HB.out); clear hq_ HO_5 HO_6 HO_7 HB; have HO_5 := n0_; have HO_6 := n1_; have HO_7 := n2_; have HB := n3_; clear n0_ n1_ n2_ n3_; (try (have HP24 := Kd.R_putg HO_7.out ((ji16) : Int) ((Int.tmod (IntKind.u64.wrap (x9_2 + (IntKind.u64.wrap ((IntKind.u64.wrap (rd x7_2 (ji16))) + (IntKind.u64.wrap ((IntKind.u64.wrap (rd t540 x8_1)) * (IntKind.u64.wrap (rd t543 x10_2)))))))) 4294967296) % 4294967296))))); refine store_event (t := 99) (p := 62) (v := ?vo_w25) (w1 := (wr.setCell ⟨go22, ((ji16) : Int).toNat, none⟩ (.int .u32 ((Int.tmod (IntKind.u64.wrap (x9_2 + (IntKind.u64.wrap ((IntKind.u64.wrap (rd x7_2 (ji16))) + (IntKind.u64.wrap ((IntKind.u64.wrap (rd t540 x8_1)) * (IntKind.u64.wrap (rd t543 x10_2)))))))) 4294967296) % 4294967296)))) ?hg ?ho ?hn ?hr ?_; (case ho => rfl); (case hg => rfl); (case hn => rfl); (case hr => first | (go_simp; done) | (go_simp; rfl)); intro w25 hw; have hg : wr.grownBy w25 (some go22) := (by rw [hw]; exact HP24.2); have hp_ : Kd.R (Kd.int .u32) 99 w25 w.heap.size (fun k_ => some k_ ≠ (.slice (some ad553) t540.length co10 : Value).ownBlock ∧ some k_ ≠ (.slice (some ad554) t543.length co11 : Value).ownBlock) (.slice (some ⟨go22, 0, none⟩) x7_2.length co23) y555 := (by rw [hw, Ny555.out]; exact HP24.1); clear HP24; have n_ := mk4 (Kd.R_after (v := (.slice (some ⟨go22, 0, none⟩) x7_2.length co23)) (v1 := (.slice (some ⟨go22, 0, none⟩) x7_2.length co23)) (ok := (fun k_ => some k_ ≠ (.slice (some ad554) t543.length co11 : Value).ownBlock)) (ra HO_5.out) hg (.inl rfl)) (Kd.R_after (v := (.slice (some ⟨go22, 0, none⟩) x7_2.length co23)) (v1 := (.slice (some ⟨go22, 0, none⟩) x7_2.length co23)) (ok := (fun k_ => some k_ ≠ (.slice (some ad553) t540.length co10 : Value).ownBlock)) (ra HO_6.out) hg (.inl rfl)) (hp_) ((by rw [hw]; exact below_set (HB.out) GB22.out : Below w.heap.size w w25)); clear HO_5 HO_6 HO_7 HB; obtain ⟨HO_5, HO_6, HO_7, HB⟩ := n_; clear hg hw hp_)); try go_wp2_with (first | ((with_reducible refine gate_store (t := 99) (p := 62) rfl ?_); (try (rw [drewN_self wr]; generalize hq_ : World.drewN wr _ = wr; have n0_ := Aside0.mk (Kd.R_at hq_ HO_5.out); have n1_ := Aside0.mk (Kd.R_at hq_ HO_6.out); have n2_ := Aside0.mk (Kd.R_at hq_ HO_7.out); have n3_ := Aside0.mk (below_at hq_ HB.out); clear hq_ HO_5 HO_6 HO_7 HB; have HO_5 := n0_; have HO_6 := n1_; have HO_7 := n2_; have HB := n3_; clear n0_ n1_ n2_ n3_; (try (have HP24 := Kd.R_putg HO_7.out ((ji16) : Int) ((Int.tmod (IntKind.u64.wrap (x9_2 + (IntKind.u64.wrap ((IntKind.u64.wrap (rd x7_2 (ji16))) + (IntKind.u64.wrap ((IntKind.u64.wrap (rd t540 x8_1)) * (IntKind.u64.wrap (rd t543 x10_2)))))))) 4294967296) % 4294967296))))); refine store_event (t := 99) (p := 62) (v := ?vo_w25) (w1 := (wr.setCell ⟨go22, ((ji16) : Int).toNat, none⟩ (.int .u32 ((Int.tmod (IntKind.u64.wrap (x9_2 + (IntKind.u64.wrap ((IntKind.u64.wrap (rd x7_2 (ji16))) + (IntKind.u64.wrap ((IntKind.u64.wrap (rd t540 x8_1)) * (IntKind.u64.wrap (rd t543 x10_2)))))))) 4294967296) % 4294967296)))) ?hg ?ho ?hn ?hr ?_; (case ho => rfl); (case hg => rfl); (case hn => rfl); (case hr => first | (go_simp; done) | (go_simp; rfl)); intro w25 hw; have hg : wr.grownBy w25 (some go22) := (by rw [hw]; exact HP24.2); have hp_ : Kd.R (Kd.int .u32) 99 w25 w.heap.size (fun k_ => some k_ ≠ (.slice (some ad553) t540.length co10 : Value).ownBlock ∧ some k_ ≠ (.slice (some ad554) t543.length co11 : Value).ownBlock) (.slice (some ⟨go22, 0, none⟩) x7_2.length co23) y555 := (by rw [hw, Ny555.out]; exact HP24.1); clear HP24; have n_ := mk4 (Kd.R_after (v := (.slice (some ⟨go22, 0, none⟩) x7_2.length co23)) (v1 := (.slice (some ⟨go22, 0, none⟩) x7_2.length co23)) (ok := (fun k_ => some k_ ≠ (.slice (some ad554) t543.length co11 : Value).ownBlock)) (ra HO_5.out) hg (.inl rfl)) (Kd.R_after (v := (.slice (some ⟨go22, 0, none⟩) x7_2.length co23)) (v1 := (.slice (some ⟨go22, 0, none⟩) x7_2.length co23)) (ok := (fun k_ => some k_ ≠ (.slice (some ad553) t540.length co10 : Value).ownBlock)) (ra HO_6.out) hg (.inl rfl)) (hp_) ((by rw [hw]; exact below_set (HB.out) GB22.out : Below w.heap.size w w25)); clear HO_5 HO_6 HO_7 HB; obtain ⟨HO_5, HO_6, HO_7, HB⟩ := n_; clear hg hw hp_)))
              have HPn := Kd.R_putg (Kd.R_drewN HO_7.out nq) ((ji16) : Int) ((Int.tmod (IntKind.u64.wrap (x9_2 + (IntKind.u64.wrap ((IntKind.u64.wrap (rd x7_2 (ji16))) + (IntKind.u64.wrap ((IntKind.u64.wrap (rd t540 x8_1)) * (IntKind.u64.wrap (rd t543 x10_2)))))))) 4294967296) % 4294967296)
              have n0_ := Aside0.mk (Kd.R_after (v := (.slice (some ⟨go22, 0, none⟩) x7_2.length co23)) (v1 := (.slice (some ⟨go22, 0, none⟩) x7_2.length co23)) (ok := (fun k_ => some k_ ≠ (.slice (some ad554) t543.length co11 : Value).ownBlock)) (Kd.R_drewN HO_5.out nq) HPn.2 (.inl rfl))
              have n1_ := Aside0.mk (Kd.R_after (v := (.slice (some ⟨go22, 0, none⟩) x7_2.length co23)) (v1 := (.slice (some ⟨go22, 0, none⟩) x7_2.length co23)) (ok := (fun k_ => some k_ ≠ (.slice (some ad553) t540.length co10 : Value).ownBlock)) (Kd.R_drewN HO_6.out nq) HPn.2 (.inl rfl))
              have n2_ := HPn.1
              rw [← Ny555.out] at n2_
              have n2_ := Aside0.mk n2_
              have n3_ := Aside0.mk (below_set (pw_below_drewN HB.out nq) GB22.out : Below w.heap.size w ((wr.drewN nq).setCell ⟨go22, ((ji16) : Int).toNat, none⟩ (.int .u32 ((Int.tmod (IntKind.u64.wrap (x9_2 + (IntKind.u64.wrap ((IntKind.u64.wrap (rd x7_2 (ji16))) + (IntKind.u64.wrap ((IntKind.u64.wrap (rd t540 x8_1)) * (IntKind.u64.wrap (rd t543 x10_2)))))))) 4294967296) % 4294967296))))
              clear HO_5 HO_6 HO_7 HB HPn; have HO_5 := n0_; have HO_6 := n1_; have HO_7 := n2_; have HB := n3_; clear n0_ n1_ n2_ n3_
              go_roundg k2
              case measure => have := HK1.out; have := HK2.out; omega
              case rel => exact ⟨(y555), (IntKind.u64.wrap (Int.tdiv (IntKind.u64.wrap (x9_2 + (IntKind.u64.wrap ((IntKind.u64.wrap (rd x7_2 (ji16))) + (IntKind.u64.wrap ((IntKind.u64.wrap (rd t540 x8_1)) * (IntKind.u64.wrap (rd t543 x10_2)))))))) 4294967296)), (wrap64 (x10_2 + 1)), (by first | rfl | (simp; done) | (simp only [← hji16] <;> (first | rfl | simp)) | (simp [*]; done)), (by first | rfl | (simp; done) | (simp [*]; done)), H', ⟨by have := HK1.out; have := HK2.out; omega⟩, ⟨ra HO_5.out⟩, ⟨ra HO_6.out⟩, ⟨ra HO_7.out⟩, ⟨bl HB⟩⟩
             ·rw [if_neg c21] at H
              exact absurd H (by simp)
            ·rw [if_neg c20] at H
             exact absurd H (by simp)
           ·rw [if_neg c19] at H
            exact absurd H (by simp)
          ·rw [if_neg c18] at H
           exact absurd H (by simp)
         ·rw [if_neg c17] at H
          exact absurd H (by simp)
        ·rw [if_neg c15] at H
         have c15b0 : decide (x10_2 < (t543.length : Int)) = false := decide_eq_false c15
         clear c15
         obtain ⟨ji26, hji26⟩ : ∃ j_ : Int, (wrap64 (x8_1 + (t543.length : Int))) = j_ := ⟨_, rfl⟩
         replace H : (if 0 ≤ (ji26) then (if (ji26) < (x7_2.length : Int) then (sibylref01_Times.l0 k2 t540 t543 (x7_2.set ((ji26) : Int).toNat ((x9_2) % 4294967296)) (wrap64 (x8_1 + 1))) else (none)) else (none)) = some r := by first | (rw [hji26] at H; exact H) | (simp only [hji26] at H ⊢; exact H)
         have hji26w : (IntKind.i64.wrap (x8_1 + (t543.length : Int))) = ji26 := (i64_w _).trans hji26
         by_cases c27 : 0 ≤ (ji26)
         ·rw [if_pos c27] at H
          have c27b0 : decide (0 ≤ (ji26)) = true := decide_eq_true c27
          clear c27
          by_cases c28 : (ji26) < (x7_2.length : Int)
          ·rw [if_pos c28] at H
           have c28b0 : decide ((ji26) < (x7_2.length : Int)) = true := decide_eq_true c28
           clear c28
           obtain ⟨y556, hy556⟩ : ∃ y_ : List Int, y_ = (x7_2.set ((ji26) : Int).toNat ((x9_2) % 4294967296)) := ⟨_, rfl⟩
           replace H : (sibylref01_Times.l0 k2 t540 t543 y556 (wrap64 (x8_1 + 1))) = some r := by rw [hy556]; exact H
           have Ny556 := Aside0.mk hy556
           clear hy556
           have H' := Aside0.mk H
           clear H
           have p29 : 0 ≤ ((ji26) : Int) := of_decide_eq_true (by first | (with_reducible assumption) | assumption)
           have q29 : ((ji26) : Int) < ((x7_2.length : Int) : Int) := of_decide_eq_true (by first | (with_reducible assumption) | assumption)
           obtain ⟨go29, co29, eo29, gb29, gl29, cl29, HG29⟩ := Kd.R_form HO_7.out (by omega)
           (first | cases eo29 | (injection eo29 with ea_ en_ ec_; (first | subst ea_ | (injection ea_ with ea_; subst ea_)); subst ec_; clear en_))
           have GB29 := Aside0.mk gb29
           have GG29 := Aside0.mk HG29
           clear gb29 gl29 HG29
           obtain ⟨hx29_0, hf29_0⟩ := Kd.R_celln 0 HO_7.out ((ji26) : Int) p29 q29
           replace p29 := eq_true p29
           replace q29 := eq_true q29
           have HP30 := Kd.R_putg HO_7.out ((ji26) : Int) ((x9_2) % 4294967296)
           go_wp2_with (first | ((with_reducible refine gate_store (t := 99) (p := 72) rfl ?_); (try (rw [drewN_self wr]; generalize hq_ : World.drewN wr _ = wr; have n0_ := Aside0.mk (Kd.R_at hq_ HO_5.out); have n1_ := Aside0.mk (Kd.R_at hq_ HO_6.out); have n2_ := Aside0.mk (Kd.R_at hq_ HO_7.out); have n3_ := Aside0.mk (below_at hq_ HB.out); clear hq_ HO_5 HO_6 HO_7 HB; have HO_5 := n0_; have HO_6 := n1_; have HO_7 := n2_; have HB := n3_; clear n0_ n1_ n2_ n3_; (try (have HP30 := Kd.R_putg HO_7.out ((ji26) : Int) ((x9_2) % 4294967296))))); refine store_event (t := 99) (p := 72) (v := ?vo_w31) (w1 := (wr.setCell ⟨go29, ((ji26) : Int).toNat, none⟩ (.int .u32 ((x9_2) % 4294967296)))) ?hg ?ho ?hn ?hr ?_; (case ho => rfl); (case hg => rfl); (case hn => rfl); (case hr => first | (go_simp; done) | (go_simp; rfl)); intro w31 hw; have hg : wr.grownBy w31 (some go29) := (by rw [hw]; exact HP30.2); have hp_ : Kd.R (Kd.int .u32) 99 w31 w.heap.size (fun k_ => some k_ ≠ (.slice Ao10 t540.length co10 : Value).ownBlock ∧ some k_ ≠ (.slice Ao11 t543.length co11 : Value).ownBlock) (.slice (some ⟨go29, 0, none⟩) x7_2.length co29) y556 := (by rw [hw, Ny556.out]; exact HP30.1); clear HP30; have n_ := mk4 (Kd.R_after (v := (.slice (some ⟨go29, 0, none⟩) x7_2.length co29)) (v1 := (.slice (some ⟨go29, 0, none⟩) x7_2.length co29)) (ok := (fun k_ => some k_ ≠ (.slice Ao11 t543.length co11 : Value).ownBlock)) (ra HO_5.out) hg (.inl rfl)) (Kd.R_after (v := (.slice (some ⟨go29, 0, none⟩) x7_2.length co29)) (v1 := (.slice (some ⟨go29, 0, none⟩) x7_2.length co29)) (ok := (fun k_ => some k_ ≠ (.slice Ao10 t540.length co10 : Value).ownBlock)) (ra HO_6.out) hg (.inl rfl)) (hp_) ((by rw [hw]; exact below_set (HB.out) GB29.out : Below w.heap.size w w31)); clear HO_5 HO_6 HO_7 HB; obtain ⟨HO_5, HO_6, HO_7, HB⟩ := n_; clear hg hw hp_))
           repeat (go_quiet (first | ((with_reducible refine gate_store (t := 99) (p := 72) rfl ?_); (try (rw [drewN_self wr]; generalize hq_ : World.drewN wr _ = wr; have n0_ := Aside0.mk (Kd.R_at hq_ HO_5.out); have n1_ := Aside0.mk (Kd.R_at hq_ HO_6.out); have n2_ := Aside0.mk (Kd.R_at hq_ HO_7.out); have n3_ := Aside0.mk (below_at hq_ HB.out); clear hq_ HO_5 HO_6 HO_7 HB; have HO_5 := n0_; have HO_6 := n1_; have HO_7 := n2_; have HB := n3_; clear n0_ n1_ n2_ n3_; (try (have HP30 := Kd.R_putg HO_7.out ((ji26) : Int) ((x9_2) % 4294967296))))); refine store_event (t := 99) (p := 72) (v := ?vo_w31) (w1 := (wr.setCell ⟨go29, ((ji26) : Int).toNat, none⟩ (.int .u32 ((x9_2) % 4294967296)))) ?hg ?ho ?hn ?hr ?_; (case ho => rfl); (case hg => rfl); (case hn => rfl); (case hr => first | (go_simp; done) | (go_simp; rfl)); intro w31 hw; have hg : wr.grownBy w31 (some go29) := (by rw [hw]; exact HP30.2); have hp_ : Kd.R (Kd.int .u32) 99 w31 w.heap.size (fun k_ => some k_ ≠ (.slice Ao10 t540.length co10 : Value).ownBlock ∧ some k_ ≠ (.slice Ao11 t543.length co11 : Value).ownBlock) (.slice (some ⟨go29, 0, none⟩) x7_2.length co29) y556 := (by rw [hw, Ny556.out]; exact HP30.1); clear HP30; have n_ := mk4 (Kd.R_after (v := (.slice (some ⟨go29, 0, none⟩) x7_2.length co29)) (v1 := (.slice (some ⟨go29, 0, none⟩) x7_2.length co29)) (ok := (fun k_ => some k_ ≠ (.slice Ao11 t543.length co11 : Value).ownBlock)) (ra HO_5.out) hg (.inl rfl)) (Kd.R_after (v := (.slice (some ⟨go29, 0, none⟩) x7_2.length co29)) (v1 := (.slice (some ⟨go29, 0, none⟩) x7_2.length co29)) (ok := (fun k_ => some k_ ≠ (.slice Ao10 t540.length co10 : Value).ownBlock)) (ra HO_6.out) hg (.inl rfl)) (hp_) ((by rw [hw]; exact below_set (HB.out) GB29.out : Below w.heap.size w w31)); clear HO_5 HO_6 HO_7 HB; obtain ⟨HO_5, HO_6, HO_7, HB⟩ := n_; clear hg hw hp_)); try go_wp2_with (first | ((with_reducible refine gate_store (t := 99) (p := 72) rfl ?_); (try (rw [drewN_self wr]; generalize hq_ : World.drewN wr _ = wr; have n0_ := Aside0.mk (Kd.R_at hq_ HO_5.out); have n1_ := Aside0.mk (Kd.R_at hq_ HO_6.out); have n2_ := Aside0.mk (Kd.R_at hq_ HO_7.out); have n3_ := Aside0.mk (below_at hq_ HB.out); clear hq_ HO_5 HO_6 HO_7 HB; have HO_5 := n0_; have HO_6 := n1_; have HO_7 := n2_; have HB := n3_; clear n0_ n1_ n2_ n3_; (try (have HP30 := Kd.R_putg HO_7.out ((ji26) : Int) ((x9_2) % 4294967296))))); refine store_event (t := 99) (p := 72) (v := ?vo_w31) (w1 := (wr.setCell ⟨go29, ((ji26) : Int).toNat, none⟩ (.int .u32 ((x9_2) % 4294967296)))) ?hg ?ho ?hn ?hr ?_; (case ho => rfl); (case hg => rfl); (case hn => rfl); (case hr => first | (go_simp; done) | (go_simp; rfl)); intro w31 hw; have hg : wr.grownBy w31 (some go29) := (by rw [hw]; exact HP30.2); have hp_ : Kd.R (Kd.int .u32) 99 w31 w.heap.size (fun k_ => some k_ ≠ (.slice Ao10 t540.length co10 : Value).ownBlock ∧ some k_ ≠ (.slice Ao11 t543.length co11 : Value).ownBlock) (.slice (some ⟨go29, 0, none⟩) x7_2.length co29) y556 := (by rw [hw, Ny556.out]; exact HP30.1); clear HP30; have n_ := mk4 (Kd.R_after (v := (.slice (some ⟨go29, 0, none⟩) x7_2.length co29)) (v1 := (.slice (some ⟨go29, 0, none⟩) x7_2.length co29)) (ok := (fun k_ => some k_ ≠ (.slice Ao11 t543.length co11 : Value).ownBlock)) (ra HO_5.out) hg (.inl rfl)) (Kd.R_after (v := (.slice (some ⟨go29, 0, none⟩) x7_2.length co29)) (v1 := (.slice (some ⟨go29, 0, none⟩) x7_2.length co29)) (ok := (fun k_ => some k_ ≠ (.slice Ao10 t540.length co10 : Value).ownBlock)) (ra HO_6.out) hg (.inl rfl)) (hp_) ((by rw [hw]; exact below_set (HB.out) GB29.out : Below w.heap.size w w31)); clear HO_5 HO_6 HO_7 HB; obtain ⟨HO_5, HO_6, HO_7, HB⟩ := n_; clear hg hw hp_)))
           go_roundg k2
           case measure => have := HK1.out; have := HK2.out; omega
           case rel => exact ⟨(y556), (wrap64 (x8_1 + 1)), (by first | rfl | (simp; done) | (simp [*]; done)), H', ⟨by have := HK1.out; have := HK2.out; omega⟩, ⟨ra HO_5.out⟩, ⟨ra HO_6.out⟩, ⟨ra HO_7.out⟩, ⟨bl HB⟩⟩
          ·rw [if_neg c28] at H
           exact absurd H (by simp)
         ·rw [if_neg c27] at H
          exact absurd H (by simp)
     ·rw [if_neg c14] at H
      have c14b0 : decide (x8_1 < (t540.length : Int)) = false := decide_eq_false c14
      clear c14
      obtain ⟨t549, A32, H⟩ := bindA H
      obtain rfl := Option.some.inj H
      obtain ⟨Ao33, co33, eo33⟩ := Kd.R_slice HO_7.out
      subst eo33
      go_wp2_with (first | (go_at_call 83; (with_reducible refine (sibylref01_Trim.calls k1 _ _ x7_1 t549 _ ?side1 ?side2 A32.out).mono ?_); (case side1 => exact ca ((Kd.R_reads' HO_7.out).2.2)); (case side2 => exact (Kd.R_reads' HO_7.out).2.1); rintro e w34 ⟨v550, rfl, ho0, hb⟩; have n_ := mk5 (Kd.R_elder' (ra HO_5.out) (Kd.R_base ho0) hb) (Kd.R_elder' (ra HO_6.out) (Kd.R_base ho0) hb) (Kd.R_elder' (ra HO_7.out) (Kd.R_base ho0) hb) (Kd.R_lower (Kd.R_new' (Kd.R_new' (Kd.R_new' ho0 (Kd.R_lt (ra HO_5.out))) (Kd.R_lt (ra HO_6.out))) (Kd.R_lt (ra HO_7.out))) (below_size (bl HB))) (below_step (bl HB) hb); clear HO_5 HO_6 HO_7 HB; obtain ⟨HO_5, HO_6, HO_7, HO551, HB⟩ := n_; (try clear hb); (try clear hb2); (try clear hk); (try clear hi); (try clear ho0)))
      repeat (go_quiet (first | (go_at_call 83; (with_reducible refine (sibylref01_Trim.calls k1 _ _ x7_1 t549 _ ?side1 ?side2 A32.out).mono ?_); (case side1 => exact ca ((Kd.R_reads' HO_7.out).2.2)); (case side2 => exact (Kd.R_reads' HO_7.out).2.1); rintro e w34 ⟨v550, rfl, ho0, hb⟩; have n_ := mk5 (Kd.R_elder' (ra HO_5.out) (Kd.R_base ho0) hb) (Kd.R_elder' (ra HO_6.out) (Kd.R_base ho0) hb) (Kd.R_elder' (ra HO_7.out) (Kd.R_base ho0) hb) (Kd.R_lower (Kd.R_new' (Kd.R_new' (Kd.R_new' ho0 (Kd.R_lt (ra HO_5.out))) (Kd.R_lt (ra HO_6.out))) (Kd.R_lt (ra HO_7.out))) (below_size (bl HB))) (below_step (bl HB) hb); clear HO_5 HO_6 HO_7 HB; obtain ⟨HO_5, HO_6, HO_7, HO551, HB⟩ := n_; (try clear hb); (try clear hb2); (try clear hk); (try clear hi); (try clear ho0))); try go_wp2_with (first | (go_at_call 83; (with_reducible refine (sibylref01_Trim.calls k1 _ _ x7_1 t549 _ ?side1 ?side2 A32.out).mono ?_); (case side1 => exact ca ((Kd.R_reads' HO_7.out).2.2)); (case side2 => exact (Kd.R_reads' HO_7.out).2.1); rintro e w34 ⟨v550, rfl, ho0, hb⟩; have n_ := mk5 (Kd.R_elder' (ra HO_5.out) (Kd.R_base ho0) hb) (Kd.R_elder' (ra HO_6.out) (Kd.R_base ho0) hb) (Kd.R_elder' (ra HO_7.out) (Kd.R_base ho0) hb) (Kd.R_lower (Kd.R_new' (Kd.R_new' (Kd.R_new' ho0 (Kd.R_lt (ra HO_5.out))) (Kd.R_lt (ra HO_6.out))) (Kd.R_lt (ra HO_7.out))) (below_size (bl HB))) (below_step (bl HB) hb); clear HO_5 HO_6 HO_7 HB; obtain ⟨HO_5, HO_6, HO_7, HO551, HB⟩ := n_; (try clear hb); (try clear hb2); (try clear hk); (try clear hi); (try clear ho0))))
      go_ret
      exact ⟨_, by first | rfl | (simp [errW_none, errW_some] <;> rfl) | (simp only [← hji5]; first | rfl | (simp [errW_none, errW_some] <;> rfl)) | (simp [*, errW_none, errW_some] <;> rfl), ra (Kd.R_mono HO551.out (fun _ hk => trivial)), bl HB⟩
  ·rw [if_neg c7] at H
   exact absurd H (by simp)
 ·rw [if_neg c6] at H
  exact absurd H (by simp)
def sibylref21_Mul.j0 : Nat → Int → Int → Bool → Option (Int)
 | 0, _, _, _ => none
 | k + 1, x0, x1, x18 => if x18 = true then (some 0) else ((sibylref03_Parts.f k x0).bind fun bt557 => ((sibylref03_Parts.f k x1).bind fun bt561 => ((sibylref21_natural.f bt557.2.1).bind fun t565 => ((sibylref21_natural.f bt561.2.1).bind fun t568 => ((sibylref01_Times.f k t565 t568).bind fun t571 => ((sibylref21_round.f k false t571 (wrap64 (bt557.2.2.1 + bt561.2.2.1)) false).bind fun t574 => (some t574)))))))
def sibylref21_Mul.f (k : Nat) (a0 : Int) (a1 : Int) : Option (Int) := if a0 = 0 then (sibylref21_Mul.j0 k a0 a1 true) else (sibylref21_Mul.j0 k a0 a1 (a1 == 0))
set_option maxHeartbeats 8000000 in
set_option maxRecDepth 100000 in
theorem sibylref21_Mul.calls (k : Nat) (a0 : Int) (a1 : Int) (r : Int) (w : World) (h : sibylref21_Mul.f k a0 a1 = some r) :
  Calls Try.prog 31 #[.int .u64 a0, .int .u64 a1] w fun e w' => e = .returned (.int .u64 r) ∧ Below w.heap.size w w' := by
 have HB := Aside0.mk (Below.refl w.heap.size w)
 have H : (if a0 = 0 then (sibylref21_Mul.j0 k a0 a1 true) else (sibylref21_Mul.j0 k a0 a1 (a1 == 0))) = some r := h
 clear h
 have HC3 := Aside0.mk H
 clear H
 go_enter Try.func31, Try.ntmps31
 go_upto_region 1 with (fail)
 go_cut [18] (fun v18 wc => ∃ (kq : Nat) (x18_2 : Bool), v18 = .bool x18_2 ∧ Aside0 (sibylref21_Mul.j0 kq a0 a1 x18_2 = some r) ∧ Aside0 (kq ≤ k) ∧ Aside0 (Below w.heap.size w wc))
 case first =>
  have H := HC3.out
  clear HC3
  by_cases c4 : a0 = 0
  ·rw [if_pos c4] at H
   have c4b0 : (a0 == 0) = true := beq_iff_eq.mpr c4
   have c4b1 : (a0 != 0) = false := bne_eq_false_iff_eq.mpr c4
   clear c4
   (first | rw [c4b0] | (simp only [i64_w, i32_w]; rw [c4b0]) | skip)
   have H' := Aside0.mk H
   clear H
   go_wp2
   go_meet
   case rel => exact ⟨_, (true), (by first | rfl | (simp; done) | (simp [*]; done)), H', ⟨by first | omega | exact Nat.le_refl _⟩, ⟨bl HB⟩⟩
  ·rw [if_neg c4] at H
   have c4b0 : (a0 == 0) = false := beq_eq_false_iff_ne.mpr c4
   have c4b1 : (a0 != 0) = true := bne_iff_ne.mpr c4
   (first | rw [c4b0] | (simp only [i64_w, i32_w]; rw [c4b0]) | skip)
   have H' := Aside0.mk H
   clear H
   go_wp2
   go_meet
   case rel => exact ⟨_, ((a1 == 0)), (by first | rfl | (simp; done) | (simp [*]; done)), H', ⟨by first | omega | exact Nat.le_refl _⟩, ⟨bl HB⟩⟩
 case rest =>
  clear HC3
  try clear p2
  try clear c3
  try clear c4
  try clear c4b0
  try clear c4b1
  obtain ⟨kq, x18_2, rfl, HA, HJ2, HB⟩ := hcut
  cases kq with
  | zero => exact absurd HA.out (by simp [sibylref21_Mul.j0])
  | succ kj2 =>
   have H := HA.out
   clear HA
   simp only [sibylref21_Mul.j0] at H
   by_cases c5 : x18_2 = true
   ·subst c5
    have H1 : (some 0) = some r := by rw [if_pos rfl] at H; exact H
    clear H
    have H := H1
    clear H1
    obtain rfl := Option.some.inj H
    go_wp2
    go_ret
    exact ⟨by first | rfl | simp [*], bl HB⟩
   ·replace c5 := Bool.eq_false_iff.mpr c5
    subst c5
    have H1 : ((sibylref03_Parts.f kj2 a0).bind fun bt557 => ((sibylref03_Parts.f kj2 a1).bind fun bt561 => ((sibylref21_natural.f bt557.2.1).bind fun t565 => ((sibylref21_natural.f bt561.2.1).bind fun t568 => ((sibylref01_Times.f kj2 t565 t568).bind fun t571 => ((sibylref21_round.f kj2 false t571 (wrap64 (bt557.2.2.1 + bt561.2.2.1)) false).bind fun t574 => (some t574))))))) = some r := by rw [if_neg (show ¬ (false = true) by decide)] at H; exact H
    clear H
    have H := H1
    clear H1
    obtain ⟨⟨t557, t558, t559, t560⟩, A6, H⟩ := bindA H
    dsimp only at H
    obtain ⟨⟨t561, t562, t563, t564⟩, A7, H⟩ := bindA H
    dsimp only at H
    obtain ⟨t565, A8, H⟩ := bindA H
    obtain ⟨t568, A9, H⟩ := bindA H
    obtain ⟨t571, A10, H⟩ := bindA H
    obtain ⟨t574, A11, H⟩ := bindA H
    obtain rfl := Option.some.inj H
    go_wp2_with (first | ((with_reducible refine gate_callee (f := 60) rfl ?_); refine goesM (some 21) rfl rfl Try.func60 (by kernel_rfl) rfl #[.int .u64 a0] rfl (by rfl) ?_; (with_reducible refine (sibylref03_Parts.calls kj2 a0 t557 t558 t559 t560 _ A6.out).mono ?_); rintro e w' ⟨rfl, ⟨nd, rfl⟩⟩; refine ⟨_, rfl, ?_⟩) | ((with_reducible refine gate_callee (f := 60) rfl ?_); refine goesM (some 28) rfl rfl Try.func60 (by kernel_rfl) rfl #[.int .u64 a1] rfl (by rfl) ?_; (with_reducible refine (sibylref03_Parts.calls kj2 a1 t561 t562 t563 t564 _ A7.out).mono ?_); rintro e w' ⟨rfl, ⟨nd, rfl⟩⟩; refine ⟨_, rfl, ?_⟩) | ((with_reducible refine gate_callee (f := 63) rfl ?_); refine goesM (some 34) rfl rfl Try.func63 (by kernel_rfl) rfl #[.int .u64 t558] rfl (by rfl) ?_; (with_reducible refine (sibylref21_natural.calls t558 t565 _ A8.out).mono ?_); rintro e w12 ⟨v566, rfl, ho0, hb⟩; refine ⟨_, rfl, ?_⟩; have n_ := mk2 (Kd.R_lower ho0 (below_size (bl HB))) (below_step (bl HB) hb); clear HB; obtain ⟨HO567, HB⟩ := n_; (try clear hb); (try clear hb2); (try clear hk); (try clear hi); (try clear ho0)) | ((with_reducible refine gate_callee (f := 63) rfl ?_); refine goesM (some 36) rfl rfl Try.func63 (by kernel_rfl) rfl #[.int .u64 t562] rfl (by rfl) ?_; (with_reducible refine (sibylref21_natural.calls t562 t568 _ A9.out).mono ?_); rintro e w13 ⟨v569, rfl, ho0, hb⟩; refine ⟨_, rfl, ?_⟩; have n_ := mk3 (Kd.R_elder' (ra HO567.out) (Kd.R_base ho0) hb) (Kd.R_lower (Kd.R_new' ho0 (Kd.R_lt (ra HO567.out))) (below_size (bl HB))) (below_step (bl HB) hb); clear HO567 HB; obtain ⟨HO567, HO570, HB⟩ := n_; (try clear hb); (try clear hb2); (try clear hk); (try clear hi); (try clear ho0); obtain ⟨Ao14, co14, eo14⟩ := Kd.R_slice HO567.out; subst eo14; obtain ⟨Ao15, co15, eo15⟩ := Kd.R_slice HO570.out; subst eo15) | ((with_reducible refine gate_callee (f := 62) rfl ?_); refine goesM (some 37) rfl rfl Try.func62 (by kernel_rfl) rfl #[.slice Ao14 t565.length co14, .slice Ao15 t568.length co15] rfl (by rfl) ?_; (with_reducible refine (sibylref01_Times.calls kj2 _ _ t565 _ _ t568 t571 _ ?side1 ?side2 ?side3 ?side4 A10.out).mono ?_); (case side1 => exact ca ((Kd.R_reads' HO567.out).2.2)); (case side2 => exact (Kd.R_reads' HO567.out).2.1); (case side3 => exact ca ((Kd.R_reads' HO570.out).2.2)); (case side4 => exact (Kd.R_reads' HO570.out).2.1); rintro e w16 ⟨v572, rfl, ho0, hb⟩; refine ⟨_, rfl, ?_⟩; have n_ := mk4 (Kd.R_elder' (ra HO567.out) (Kd.R_base ho0) hb) (Kd.R_elder' (ra HO570.out) (Kd.R_base ho0) hb) (Kd.R_lower (Kd.R_new' (Kd.R_new' ho0 (Kd.R_lt (ra HO567.out))) (Kd.R_lt (ra HO570.out))) (below_size (bl HB))) (below_step (bl HB) hb); clear HO567 HO570 HB; obtain ⟨HO567, HO570, HO573, HB⟩ := n_; (try clear hb); (try clear hb2); (try clear hk); (try clear hi); (try clear ho0); obtain ⟨Ao17, co17, eo17⟩ := Kd.R_slice HO573.out; subst eo17) | ((with_reducible refine gate_callee (f := 61) rfl ?_); refine goesM (some 41) rfl rfl Try.func61 (by kernel_rfl) rfl #[.bool false, .slice Ao17 t571.length co17, .int .i64 (wrap64 (t559 + t563)), .bool false] rfl (by rfl) ?_; (with_reducible refine (sibylref21_round.calls kj2 false (fun k_ => some k_ = (.slice Ao17 t571.length co17 : Value).ownBlock) (.slice Ao17 t571.length co17) t571 (wrap64 (t559 + t563)) false t574 w _ ?side1 ?side2 A11.out).mono ?_); (case side1 => exact bl HB); (case side2 => exact Kd.R_tight rfl HO573.out); rintro e w18 ⟨rfl, hb, hkp⟩; refine ⟨_, rfl, ?_⟩; have n_ := mk3 (Kd.R_mono (ok' := fun k_ => some k_ ≠ (.slice Ao15 t568.length co15 : Value).ownBlock) (Kd.R_keptB (HO567.out) hkp (fun k_ hk_ hs_ => (hk_.2) hs_)) (fun k_ hk_ => hk_.1.1.2)) (Kd.R_mono (ok' := fun k_ => some k_ ≠ (.slice Ao14 t565.length co14 : Value).ownBlock) (Kd.R_keptB (HO570.out) hkp (fun k_ hk_ hs_ => (hk_.2) hs_)) (fun k_ hk_ => hk_.1.1.2)) (hb); clear HO567 HO570 HB HO573; obtain ⟨HO567, HO570, HB⟩ := n_; (try clear hb); (try clear hkp)))
    go_ret
    exact ⟨by first | rfl | simp [*], bl HB⟩
def sibylref21_Chance.l0 : Nat → List Int → List (S68) → Int → Int → Option (Int × Int)
 | 0, _, _, _, _ => none
 | k + 1, x0, x1, x6, x7 => if x7 < (x1.length : Int) then (if 0 ≤ x7 then ((sibylref21_Shares.f k x0 x7 ((rd_T68 x1 x7).f0)).bind fun bt578 => (if 0 ≤ ((rd_T68 x1 x7).f1) then (if ((rd_T68 x1 x7).f1) < (bt578.1.length : Int) then ((sibylref21_Mul.f k x6 (rd bt578.1 ((rd_T68 x1 x7).f1))).bind fun t584 => (sibylref21_Chance.l0 k x0 x1 t584 (wrap64 (x7 + 1)))) else (none)) else (none))) else (none)) else (some (x6, 0))
def sibylref21_Chance.f (k : Nat) (l0 : List Int) (l1 : List (S68)) : Option (Int × Int) := (sibylref21_good.f k l1).bind fun t575 => (if t575 = true then ((sibylref21_Int.f k 1).bind fun t576 => (sibylref21_Chance.l0 k l0 l1 t576 0)) else (some (0, 2)))
set_option maxHeartbeats 8000000 in
set_option maxRecDepth 100000 in
theorem sibylref21_Chance.calls (k : Nat) (A0 : Option Addr) (c0 : Nat) (l0 : List Int) (A1 : Option Addr) (c1 : Nat) (l1 : List (S68)) (r1 : Int) (r2 : Int) (w : World) (hr0 : Kd.C (Kd.int .u64) w A0 l0.length l0) (hc0 : l0.length ≤ c0) (hr1 : Kd.C k68 w A1 l1.length l1) (hc1 : l1.length ≤ c1) (h : sibylref21_Chance.f k l0 l1 = some (r1, r2)) :
  Calls Try.prog 10 #[.slice A0 l0.length c0, .slice A1 l1.length c1] w fun e w' => e = .returned (.tuple #[.int .u64 r1, .int .i64 r2]) ∧ Below w.heap.size w w' := by
 have HR0 := Aside0.mk hr0
 have HC0 := Aside0.mk hc0
 clear hr0 hc0
 have HR1 := Aside0.mk hr1
 have HC1 := Aside0.mk hc1
 clear hr1 hc1
 have HB := Aside0.mk (Below.refl w.heap.size w)
 have H : ((sibylref21_good.f k l1).bind fun t575 => (if t575 = true then ((sibylref21_Int.f k 1).bind fun t576 => (sibylref21_Chance.l0 k l0 l1 t576 0)) else (some (0, 2)))) = some (r1, r2) := h
 clear h
 obtain ⟨t575, A3, H⟩ := bindA H
 by_cases c4 : t575 = true
 ·subst c4
  have H1 : ((sibylref21_Int.f k 1).bind fun t576 => (sibylref21_Chance.l0 k l0 l1 t576 0)) = some (r1, r2) := by rw [if_pos rfl] at H; exact H
  clear H
  have H := H1
  clear H1
  obtain ⟨t576, A5, H⟩ := bindA H
  have H' := Aside0.mk H
  clear H
  go_enter Try.func10, Try.ntmps10
  go_wp2_with (first | ((with_reducible refine gate_callee (f := 29) rfl ?_); refine goesM (some 11) rfl rfl Try.func29 (by kernel_rfl) rfl #[.slice A1 l1.length c1] rfl (by rfl) ?_; (with_reducible refine (sibylref21_good.calls k _ _ l1 true _ ?side1 ?side2 A3.out).mono ?_); (case side1 => exact ca HR1.out); (case side2 => exact HC1.out); rintro e w' ⟨rfl, ⟨nd, rfl⟩⟩; refine ⟨_, rfl, ?_⟩) | ((with_reducible refine gate_callee (f := 30) rfl ?_); refine goesM (some 13) rfl rfl Try.func30 (by kernel_rfl) rfl #[.int .i64 1] rfl (by rfl) ?_; (with_reducible refine (sibylref21_Int.calls k 1 t576 _ A5.out).mono ?_); rintro e w' ⟨rfl, ⟨nd, rfl⟩⟩; refine ⟨_, rfl, ?_⟩))
  go_loopg [6, 7] k (fun kq v6 v7 w' => ∃ (x6_1 : Int) (x7_1 : Int), v6 = .int .u64 x6_1 ∧ v7 = .int .i64 x7_1 ∧ Aside0 (sibylref21_Chance.l0 kq l0 l1 x6_1 x7_1 = some (r1, r2)) ∧ Aside0 (kq ≤ k) ∧ Aside0 (Below w.heap.size w w'))
  case atStart => exact ⟨(t576), (0), (by first | rfl | (simp; done) | (simp [*]; done)), (by first | rfl | (simp; done) | (simp [*]; done)), H', ⟨Nat.le_refl _⟩, ⟨bl HB⟩⟩
  case round =>
   clear H'
   try clear c1
   try clear c2
   try clear p2
   try clear c3
   try clear c4
   obtain ⟨x6_1, x7_1, rfl, rfl, HA, HK1, HB⟩ := hrel
   cases gk with
   | zero => exact absurd HA.out (by simp [sibylref21_Chance.l0])
   | succ k1 =>
    have H := HA.out
    clear HA
    simp only [sibylref21_Chance.l0] at H
    by_cases c6 : x7_1 < (l1.length : Int)
    ·rw [if_pos c6] at H
     have c6b0 : decide (x7_1 < (l1.length : Int)) = true := decide_eq_true c6
     clear c6
     by_cases c7 : 0 ≤ x7_1
     ·rw [if_pos c7] at H
      have c7b0 : decide (0 ≤ x7_1) = true := decide_eq_true c7
      clear c7
      obtain ⟨⟨t578, t579⟩, A8, H⟩ := bindA H
      dsimp only at H
      by_cases c9 : 0 ≤ ((rd_T68 l1 x7_1).f1)
      ·rw [if_pos c9] at H
       have c9b0 : decide (0 ≤ ((rd_T68 l1 x7_1).f1)) = true := decide_eq_true c9
       clear c9
       by_cases c10 : ((rd_T68 l1 x7_1).f1) < (t578.length : Int)
       ·rw [if_pos c10] at H
        have c10b0 : decide (((rd_T68 l1 x7_1).f1) < (t578.length : Int)) = true := decide_eq_true c10
        clear c10
        obtain ⟨t584, A11, H⟩ := bindA H
        have H' := Aside0.mk H
        clear H
        have p577 : 0 ≤ (x7_1 : Int) := of_decide_eq_true (by first | (with_reducible assumption) | assumption)
        have q577 : x7_1 < (l1.length : Int) := of_decide_eq_true (by first | (with_reducible assumption) | assumption)
        obtain ⟨ad577, e577, hx577_0, hx577_1⟩ := at_T68 HR1.out x7_1 p577 q577
        cases e577
        replace hx577_0 := (HB.out.cell (World.block_lt_of_cell? w _ hx577_0)).trans hx577_0
        replace hx577_1 := (HB.out.cell (World.block_lt_of_cell? w _ hx577_1)).trans hx577_1
        replace p577 := eq_true p577
        replace q577 := eq_true q577
        go_wp2_with (first | ((with_reducible refine gate_callee (f := 23) rfl ?_); refine goesM (some 28) rfl rfl Try.func23 (by kernel_rfl) rfl #[.slice A0 l0.length c0, .int .i64 x7_1, .int .i64 ((rd_T68 l1 x7_1).f0)] rfl (by rfl) ?_; (with_reducible refine (sibylref21_Shares.calls k1 _ _ l0 x7_1 ((rd_T68 l1 x7_1).f0) t578 t579 _ ?side1 ?side2 A8.out).mono ?_); (case side1 => exact ca (Kd.C_below HR0.out HB.out)); (case side2 => exact HC0.out); rintro e w12 ⟨v580, rfl, ho0, hb⟩; refine ⟨_, rfl, ?_⟩; have n_ := mk2 (Kd.R_lower ho0 (below_size (bl HB))) (below_step (bl HB) hb); clear HB; obtain ⟨HO581, HB⟩ := n_; (try clear hb); (try clear hb2); (try clear hk); (try clear hi); (try clear ho0); have p582 : 0 ≤ (x7_1 : Int) := of_decide_eq_true (by first | (with_reducible assumption) | assumption); have q582 : x7_1 < (l1.length : Int) := of_decide_eq_true (by first | (with_reducible assumption) | assumption); obtain ⟨ad582, e582, hx582_0, hx582_1⟩ := at_T68 HR1.out x7_1 p582 q582; obtain rfl : ad577 = ad582 := (by injection e582); replace hx582_0 := (HB.out.cell (World.block_lt_of_cell? w _ hx582_0)).trans hx582_0; replace hx582_1 := (HB.out.cell (World.block_lt_of_cell? w _ hx582_1)).trans hx582_1; replace p582 := eq_true p582; replace q582 := eq_true q582; obtain ⟨Ao13, co13, eo13⟩ := Kd.R_slice HO581.out; subst eo13; have p583 : 0 ≤ (((rd_T68 l1 x7_1).f1) : Int) := of_decide_eq_true (by first | (with_reducible assumption) | assumption); have q583 : ((rd_T68 l1 x7_1).f1) < (t578.length : Int) := of_decide_eq_true (by first | (with_reducible assumption) | assumption); obtain ⟨ad583, e583, hx583_0⟩ := Kd.at_int (Kd.R_reads' HO581.out).2.2 ((rd_T68 l1 x7_1).f1) p583 q583; cases e583; replace p583 := eq_true p583; replace q583 := eq_true q583) | ((with_reducible refine gate_callee (f := 31) rfl ?_); refine goesM (some 40) rfl rfl Try.func31 (by kernel_rfl) rfl #[.int .u64 x6_1, .int .u64 (rd t578 ((rd_T68 l1 x7_1).f1))] rfl (by rfl) ?_; (with_reducible refine (sibylref21_Mul.calls k1 x6_1 (rd t578 ((rd_T68 l1 x7_1).f1)) t584 _ A11.out).mono ?_); rintro e w14 ⟨rfl, hb⟩; refine ⟨_, rfl, ?_⟩; have n_ := mk2 (Kd.R_below (ra HO581.out) hb) (below_step (bl HB) hb); clear HO581 HB; obtain ⟨HO581, HB⟩ := n_; (try clear hb); (try clear hb2); (try clear hk); (try clear hi)))
        go_roundg k1
        case measure => have := HK1.out; omega
        case rel => exact ⟨(t584), (wrap64 (x7_1 + 1)), (by first | rfl | (simp; done) | (simp [*]; done)), (by first | rfl | (simp; done) | (simp [*]; done)), H', ⟨by have := HK1.out; omega⟩, ⟨bl HB⟩⟩
       ·rw [if_neg c10] at H
        exact absurd H (by simp)
      ·rw [if_neg c9] at H
       exact absurd H (by simp)
     ·rw [if_neg c7] at H
      exact absurd H (by simp)
    ·rw [if_neg c6] at H
     have c6b0 : decide (x7_1 < (l1.length : Int)) = false := decide_eq_false c6
     clear c6
     simp only [Option.some.injEq, Prod.mk.injEq] at H
     obtain ⟨rfl, rfl⟩ := H
     go_wp2
     go_ret2
     exact ⟨by first | rfl | simp [*], bl HB⟩
 ·replace c4 := Bool.eq_false_iff.mpr c4
  subst c4
  have H1 : (some (0, 2)) = some (r1, r2) := by rw [if_neg (show ¬ (false = true) by decide)] at H; exact H
  clear H
  have H := H1
  clear H1
  simp only [Option.some.injEq, Prod.mk.injEq] at H
  obtain ⟨rfl, rfl⟩ := H
  go_enter Try.func10, Try.ntmps10
  go_wp2_with (first | ((with_reducible refine gate_callee (f := 29) rfl ?_); refine goesM (some 11) rfl rfl Try.func29 (by kernel_rfl) rfl #[.slice A1 l1.length c1] rfl (by rfl) ?_; (with_reducible refine (sibylref21_good.calls k _ _ l1 false _ ?side1 ?side2 A3.out).mono ?_); (case side1 => exact ca HR1.out); (case side2 => exact HC1.out); rintro e w' ⟨rfl, ⟨nd, rfl⟩⟩; refine ⟨_, rfl, ?_⟩))
  go_ret2
  exact ⟨by first | rfl | simp [*], bl HB⟩
end Go.Proofs.Ytjppanekddljbaa.Pr
/- Products of limbs, plain, and what the reference's Times answers. -/
namespace Go.Proofs.Ytjppanekddljbaa.Lb
open Go.RowKit Go.Proofs.Ytjppanekddljbaa.Pr Go.Proofs.YtjppanekddljbaaW.PrintWords Go.Proofs.YtjppanekddljbaaW.PrintLast Go.Proofs.YtjppanekddljbaaW.PrintMore
theorem val_set {l : List Nat} {i : Nat} (h : i < l.length) (d : Nat) : val (l.set i d) + 4294967296 ^ i * l.getD i 0 = val l + 4294967296 ^ i * d := by
  induction l generalizing i with
  | nil => simp at h
  | cons x l ih =>
    cases i with
    | zero => simp [val]; omega
    | succ i =>
      have h1 := ih (i := i) (by simpa using h)
      have e : (x :: l).getD (i + 1) 0 = l.getD i 0 := by simp [List.getD]
      rw [List.set_cons_succ, val, val, e, Nat.pow_succ, Nat.mul_comm (4294967296 ^ i) 4294967296, Nat.mul_assoc, Nat.mul_assoc]
      omega
theorem lim_set {l : List Nat} (h : Lim l) {i d : Nat} (hd : d < 4294967296) : Lim (l.set i d) := fun x hx => by
  rcases List.mem_or_eq_of_mem_set hx with h1 | rfl
  · exact h x h1
  · exact hd
theorem getD_set_ne {l : List Nat} {i t d : Nat} (h : i ≠ t) : (l.set i d).getD t 0 = l.getD t 0 := by
  simp [List.getD, List.getElem?_set_ne h]
theorem mul_inner {α : Type} {x y : List Nat} (hx : Lim x) (hy : Lim y) {n : Nat} (g0 : List Nat → Nat → Nat → Option α) (g1 : Nat → List Nat → Nat → Nat → Nat → Option α) (r : α) {i : Nat} (hi : i < x.length) (hn : x.length + y.length ≤ n)
    (s1 : ∀ O c j k, j < y.length → O.length = n → Lim O → c < 4294967296 → g1 i O c j (k + 1) = g1 i (O.set (i + j) ((c + O.getD (i + j) 0 + x.getD i 0 * y.getD j 0) % 4294967296)) ((c + O.getD (i + j) 0 + x.getD i 0 * y.getD j 0) / 4294967296) (j + 1) k)
    (s2 : ∀ O c k, O.length = n → Lim O → c < 4294967296 → g1 i O c y.length (k + 1) = g0 (O.set (i + y.length) c) (i + 1) k) (d : Nat) :
    ∀ (j c : Nat) (O : List Nat), y.length - j = d → j ≤ y.length → c < 4294967296 → O.length = n → Lim O → (∀ t, i + y.length ≤ t → O.getD t 0 = 0) →
      (∀ O', O'.length = n → Lim O' → (∀ t, i + 1 + y.length ≤ t → O'.getD t 0 = 0) → val O' = val O + 4294967296 ^ (i + j) * (c + x.getD i 0 * val (y.drop j)) → Ev (g0 O' (i + 1)) r) → Ev (g1 i O c j) r := by
  induction d with
  | zero =>
    intro j c O hd hj hc hO hL hz hk
    obtain rfl : j = y.length := by omega
    refine Ev.step (fun k => s2 O c k hO hL hc) (hk _ (by simpa using hO) (lim_set hL hc) (fun t ht => ?_) ?_)
    · rw [getD_set_ne (by omega)]; exact hz t (by omega)
    · have h1 := val_set (l := O) (i := i + y.length) (by omega) c
      rw [hz _ (Nat.le_refl _)] at h1
      simpa [val] using h1
  | succ d ih =>
    intro j c O hd hj hc hO hL hz hk
    have hlt : j < y.length := by omega
    have b1 := lim_get hx i
    have b2 := lim_get hy j
    have b3 := lim_get hL (i + j)
    have b4 : x.getD i 0 * y.getD j 0 ≤ 4294967295 * 4294967295 := Nat.mul_le_mul (by omega) (by omega)
    obtain ⟨s, hs⟩ : ∃ s, c + O.getD (i + j) 0 + x.getD i 0 * y.getD j 0 = s := ⟨_, rfl⟩
    have hst := fun k => s1 O c j k hlt hO hL hc
    rw [hs] at hst
    refine Ev.step hst (ih (j + 1) (s / 4294967296) (O.set (i + j) (s % 4294967296)) (by omega) (by omega) (by omega) (by simpa using hO) (lim_set hL (Nat.mod_lt _ (by decide))) (fun t ht => ?_) (fun O' h1 h2 h3 h4 => hk O' h1 h2 h3 ?_))
    · rw [getD_set_ne (by omega)]; exact hz t ht
    · have h5 := val_set (l := O) (i := i + j) (by omega) (s % 4294967296)
      rw [h4, val_drop y j]
      have e : i + (j + 1) = i + j + 1 := by omega
      rw [e, Nat.pow_succ]
      obtain ⟨P, hP⟩ : ∃ P, 4294967296 ^ (i + j) = P := ⟨_, rfl⟩
      rw [hP] at h5 ⊢
      obtain ⟨V, hV⟩ : ∃ V, val (O.set (i + j) (s % 4294967296)) = V := ⟨_, rfl⟩
      rw [hV] at h5 ⊢
      obtain ⟨D, hD⟩ : ∃ D, val (y.drop (j + 1)) = D := ⟨_, rfl⟩
      rw [hD]
      have e2 : P * 4294967296 * (s / 4294967296 + x.getD i 0 * D) = P * (4294967296 * (s / 4294967296)) + P * (4294967296 * (x.getD i 0 * D)) := by
        rw [Nat.mul_assoc, Nat.mul_add, Nat.mul_add]
      have e3 : P * (c + x.getD i 0 * (y.getD j 0 + 4294967296 * D)) + P * O.getD (i + j) 0 = P * s + P * (4294967296 * (x.getD i 0 * D)) := by
        rw [← Nat.mul_add, ← Nat.mul_add, ← hs, Nat.mul_add (x.getD i 0), Nat.mul_left_comm (x.getD i 0) 4294967296]
        congr 1
        omega
      have e4 : P * (s % 4294967296) + P * (4294967296 * (s / 4294967296)) = P * s := by
        rw [← Nat.mul_add]; congr 1; omega
      rw [e2]
      omega
theorem mul_gen {α : Type} {x y : List Nat} (hx : Lim x) (hy : Lim y) {n : Nat} (g0 : List Nat → Nat → Nat → Option α) (g1 : Nat → List Nat → Nat → Nat → Nat → Option α) (r : α) (hn : x.length + y.length ≤ n)
    (s0 : ∀ O i k, O.length = n → Lim O → i < x.length → g0 O i (k + 1) = g1 i O 0 0 k)
    (s1 : ∀ i O c j k, i < x.length → j < y.length → O.length = n → Lim O → c < 4294967296 → g1 i O c j (k + 1) = g1 i (O.set (i + j) ((c + O.getD (i + j) 0 + x.getD i 0 * y.getD j 0) % 4294967296)) ((c + O.getD (i + j) 0 + x.getD i 0 * y.getD j 0) / 4294967296) (j + 1) k)
    (s2 : ∀ i O c k, i < x.length → O.length = n → Lim O → c < 4294967296 → g1 i O c y.length (k + 1) = g0 (O.set (i + y.length) c) (i + 1) k)
    (fin : ∀ O, O.length = n → Lim O → val O = val x * val y → Ev (g0 O x.length) r) : Ev (g0 (List.replicate n 0) 0) r := by
  have main : ∀ d i O, x.length - i = d → i ≤ x.length → O.length = n → Lim O → (∀ t, i + y.length ≤ t → O.getD t 0 = 0) → val O = val (x.take i) * val y → Ev (g0 O i) r := by
    intro d
    induction d with
    | zero =>
      intro i O hd hi hO hL hz hv
      obtain rfl : i = x.length := by omega
      rw [List.take_length] at hv
      exact fin O hO hL hv
    | succ d ih =>
      intro i O hd hi hO hL hz hv
      have hlt : i < x.length := by omega
      refine Ev.step (fun k => s0 O i k hO hL hlt) (mul_inner hx hy g0 g1 r hlt hn (fun O c j k => s1 i O c j k hlt) (fun O c k => s2 i O c k hlt) y.length 0 0 O (by omega) (by omega) (by omega) hO hL hz (fun O' h1 h2 h3 h4 => ?_))
      refine ih (i + 1) O' (by omega) (by omega) h1 h2 h3 ?_
      rw [h4, hv, val_take_succ hlt, Nat.add_mul, Nat.mul_assoc]
      simp
  refine main x.length 0 _ (by omega) (by omega) (by simp) (lim_replicate n) (fun t _ => ?_) (by rw [val_replicate]; simp [val])
  rcases Nat.lt_or_ge t n with h | h
  · simp [List.getD, h]
  · simp [List.getD, h]
theorem times_sum {c o p q : Nat} (hc : c < 4294967296) (ho : o < 4294967296) (hp : p < 4294967296) (hq : q < 4294967296) :
    IntKind.u64.wrap ((c : Int) + IntKind.u64.wrap (IntKind.u64.wrap ((o : Nat) : Int) + IntKind.u64.wrap (IntKind.u64.wrap ((p : Nat) : Int) * IntKind.u64.wrap ((q : Nat) : Int)))) = ((c + o + p * q : Nat) : Int) ∧ c + o + p * q < 18446744073709551616 := by
  have b4 : p * q ≤ 4294967295 * 4294967295 := Nat.mul_le_mul (by omega) (by omega)
  obtain ⟨z, hz⟩ : ∃ z, p * q = z := ⟨_, rfl⟩
  rw [wuN (n := o) (by omega), wuN (n := p) (by omega), wuN (n := q) (by omega), ← Int.natCast_mul, hz]
  rw [hz] at b4
  rw [wuN (n := z) (by omega), ← Int.natCast_add, wuN (by omega), ← Int.natCast_add, wuN (by omega), Nat.add_assoc]
  exact ⟨rfl, by omega⟩
theorem times_s1 {x y O : List Nat} (hx : Lim x) (hy : Lim y) (hlx : x.length ≤ 100000) (hly : y.length ≤ 100000) {i c j k : Nat} (hi : i < x.length) (hj : j < y.length) (hO : O.length = x.length + y.length + 1) (hL : Lim O) (hc : c < 4294967296) :
    sibylref01_Times.l1 (k + 1) (U x) (U y) (U O) (i : Int) (c : Int) (j : Int) = sibylref01_Times.l1 k (U x) (U y) (U (O.set (i + j) ((c + O.getD (i + j) 0 + x.getD i 0 * y.getD j 0) % 4294967296))) (i : Int) (((c + O.getD (i + j) 0 + x.getD i 0 * y.getD j 0) / 4294967296 : Nat) : Int) ((j + 1 : Nat) : Int) := by
  have HS := Aside0.mk (times_sum hc (lim_get hL (i + j)) (lim_get hx i) (lim_get hy j))
  have hw : wrap64 ((i : Int) + (j : Int)) = ((i + j : Nat) : Int) := by unfold wrap64; omega
  have hw2 : wrap64 ((j : Int) + 1) = ((j + 1 : Nat) : Int) := by unfold wrap64; omega
  simp only [sibylref01_Times.l1, U_length]
  rw [if_pos (by omega), hw, if_pos (by omega), if_pos (by omega), if_pos (by omega), if_pos (by omega), if_pos (by omega), rd_U, rd_U, rd_U, HS.out.1, hw2]
  have hb := HS.out.2
  clear HS
  obtain ⟨s, hse⟩ : ∃ s, c + O.getD (i + j) 0 + x.getD i 0 * y.getD j 0 = s := ⟨_, rfl⟩
  rw [hse] at hb ⊢
  rw [tmodB, tdivB, wuN (n := s / 4294967296) (by omega), Int.toNat_natCast, U_set]
theorem times_s2 {x y O : List Nat} (hlx : x.length ≤ 100000) (hly : y.length ≤ 100000) {i c k : Nat} (hi : i < x.length) (hO : O.length = x.length + y.length + 1) (hc : c < 4294967296) :
    sibylref01_Times.l1 (k + 1) (U x) (U y) (U O) (i : Int) (c : Int) (y.length : Int) = sibylref01_Times.l0 k (U x) (U y) (U (O.set (i + y.length) c)) ((i + 1 : Nat) : Int) := by
  have hw : wrap64 ((i : Int) + (y.length : Int)) = ((i + y.length : Nat) : Int) := by unfold wrap64; omega
  have hw2 : wrap64 ((i : Int) + 1) = ((i + 1 : Nat) : Int) := by unfold wrap64; omega
  simp only [sibylref01_Times.l1, U_length]
  rw [if_neg (by omega), hw, hw2, if_pos (by omega), if_pos (by omega), Int.toNat_natCast, modB hc, U_set]
theorem times_core {x y : List Nat} (hx : Lim x) (hy : Lim y) (hlx : x.length ≤ 100000) (hly : y.length ≤ 100000) :
    Ev (fun k => sibylref01_Times.l0 k (U x) (U y) (U (List.replicate (x.length + y.length + 1) 0)) ((0 : Nat) : Int)) (U (norm (val x * val y))) := by
  have s0 : ∀ (O : List Nat) (i k : Nat), O.length = x.length + y.length + 1 → Lim O → i < x.length → sibylref01_Times.l0 (k + 1) (U x) (U y) (U O) (i : Int) = sibylref01_Times.l1 k (U x) (U y) (U O) (i : Int) ((0 : Nat) : Int) ((0 : Nat) : Int) := by
    intro O i k hO hL hi
    simp only [sibylref01_Times.l0, U_length]
    rw [if_pos (by omega)]; rfl
  have fin : ∀ O : List Nat, O.length = x.length + y.length + 1 → Lim O → val O = val x * val y → Ev (fun k => sibylref01_Times.l0 k (U x) (U y) (U O) (x.length : Int)) (U (norm (val x * val y))) := by
    intro O hO hL hv
    refine Ev.step (f := fun k => (sibylref01_Trim.f k (U O)).bind fun t => some t) (fun k => ?_) ?_
    · simp only [sibylref01_Times.l0, U_length]
      rw [if_neg (by omega)]
    · have h := trim_ev (l := O) hL (by omega)
      rw [hv] at h
      exact Ev.bind h (Ev.now _)
  exact mul_gen (n := x.length + y.length + 1) hx hy (fun O i k => sibylref01_Times.l0 k (U x) (U y) (U O) (i : Int)) (fun i O c j k => sibylref01_Times.l1 k (U x) (U y) (U O) (i : Int) (c : Int) (j : Int)) _ (by omega) s0
    (fun i O c j k hi hj hO hL hc => times_s1 hx hy hlx hly hi hj hO hL hc) (fun i O c k hi hO hL hc => times_s2 hlx hly hi hO hc) fin
theorem times_ev {a b : List Nat} (ha : Lim a) (hb : Lim b) (hla : a.length ≤ 100000) (hlb : b.length ≤ 100000) : Ev (fun k => sibylref01_Times.f k (U a) (U b)) (U (norm (val a * val b))) := by
  unfold sibylref01_Times.f
  refine Ev.bind (trim_ev ha (by omega)) (Ev.bind (trim_ev hb (by omega)) ?_)
  have n1 := norm_len ha
  have n2 := norm_len hb
  have h := times_core (lim_norm (val a)) (lim_norm (val b)) (by omega) (by omega)
  rw [val_norm, val_norm] at h
  have hw : wrap64 (wrap64 (((U (norm (val a))).length : Int) + ((U (norm (val b))).length : Int)) + 1) = (((norm (val a)).length + (norm (val b)).length + 1 : Nat) : Int) := by
    rw [U_length, U_length]; unfold wrap64; omega
  rw [hw]
  refine Ev.congr (fun k => ?_) h
  rw [if_pos (by omega), if_pos (by rw [Int.toNat_natCast]; omega), Int.toNat_natCast, U_replicate]; rfl
end Go.Proofs.Ytjppanekddljbaa.Lb
/- What the reference's Bit and Divide answer. -/
namespace Go.Proofs.Ytjppanekddljbaa.Lb
open Go.RowKit Go.Proofs.Ytjppanekddljbaa.Pr Go.Proofs.YtjppanekddljbaaW.PrintWords Go.Proofs.YtjppanekddljbaaW.PrintLast Go.Proofs.YtjppanekddljbaaW.PrintMore
theorem getD_val {l : List Nat} (hL : Lim l) (w : Nat) : l.getD w 0 = val l / 4294967296 ^ w % 4294967296 := by
  rw [← val_drop_div hL, val_drop]
  have := lim_get hL w
  omega
theorem bit_low {p m s : Nat} (hs : s < 32) : (p + 4294967296 * m) / 2 ^ s % 2 = p / 2 ^ s % 2 := by
  obtain ⟨h, hh⟩ : ∃ h, 4294967296 = 2 ^ s * (2 * h) := ⟨2 ^ (31 - s), by rw [← Nat.pow_succ', ← Nat.pow_add, show s + (31 - s + 1) = 32 by omega]⟩
  rw [hh, Nat.mul_assoc, Nat.add_mul_div_left _ _ (Nat.two_pow_pos s), Nat.mul_assoc]
  omega
theorem bit_val {l : List Nat} (hL : Lim l) (i : Nat) : val l / 2 ^ i % 2 = l.getD (i / 32) 0 / 2 ^ (i % 32) % 2 := by
  have e : i = 32 * (i / 32) + i % 32 := by omega
  have h1 : val l / 2 ^ i = val (l.drop (i / 32)) / 2 ^ (i % 32) := by
    rw [val_drop_div hL, pow32, Nat.div_div_eq_div_mul, ← Nat.pow_add, ← e]
  rw [h1, val_drop, bit_low (Nat.mod_lt _ (by decide))]
theorem shr32 {y s : Nat} (hs : s ≤ 32) : shr .u32 ((y : Nat) : Int) ((s : Nat) : Int) = ((y / 2 ^ s : Nat) : Int) := by
  have e : ((2 : Int) ^ s) = ((2 ^ s : Nat) : Int) := by rw [Int.natCast_pow]; rfl
  unfold shr
  rw [Int.toNat_natCast, Nat.min_eq_left (by simp [IntKind.bits]; omega), e]
  exact (Int.natCast_ediv y _).symm
theorem bit_ev {l : List Nat} (hL : Lim l) (hlen : l.length ≤ 1000000) {i : Nat} (hi : i ≤ 1000000000) : sibylref01_Bit.f (U l) (i : Int) = some (decide (val l / 2 ^ i % 2 = 1)) := by
  unfold sibylref01_Bit.f
  rw [if_neg (by omega), shl_tdiv, w64 (by omega) (by omega), U_length, bit_val hL i]
  rcases Nat.lt_or_ge (i / 32) l.length with h | h
  · rw [if_neg (by omega), if_pos (by omega), if_pos (by omega), shl_tmod, wuN (by omega), if_pos (by omega), rd_U, shr32 (by omega)]
    refine congrArg some ?_
    have e : Int.tmod ((l.getD (i / 32) 0 / 2 ^ (i % 32) : Nat) : Int) 2 = ((l.getD (i / 32) 0 / 2 ^ (i % 32) % 2 : Nat) : Int) := (Int.ofNat_tmod _ 2).symm
    rw [e, Bool.eq_iff_iff, beq_iff_eq, decide_eq_true_iff]
    omega
  · rw [if_pos (by omega)]
    refine congrArg some ?_
    have : l.getD (i / 32) 0 = 0 := by simp [List.getD, h]
    rw [this, Nat.zero_div]
    rfl
theorem div_step {Q b t : Nat} (hb : 0 < b) (ht : t ≤ 1) : (2 * Q + t) / b = 2 * (Q / b) + (if b ≤ 2 * (Q % b) + t then 1 else 0) ∧ (2 * Q + t) % b = 2 * (Q % b) + t - (if b ≤ 2 * (Q % b) + t then b else 0) := by
  have hm := Nat.mod_lt Q hb
  have hd := Nat.div_add_mod Q b
  obtain ⟨q, hq⟩ : ∃ q, Q / b = q := ⟨_, rfl⟩
  obtain ⟨r, hr⟩ : ∃ r, Q % b = r := ⟨_, rfl⟩
  rw [hq, hr] at hd
  rw [hr] at hm
  rw [hq, hr]
  by_cases h : b ≤ 2 * r + t
  · rw [if_pos h, if_pos h]
    have e : 2 * Q + t = (2 * r + t - b) + b * (2 * q + 1) := by
      rw [Nat.mul_add, Nat.mul_left_comm b 2 q]; omega
    rw [e, Nat.add_mul_div_left _ _ hb, Nat.add_mul_mod_self_left, Nat.div_eq_of_lt (by omega), Nat.mod_eq_of_lt (by omega)]
    exact ⟨by omega, rfl⟩
  · rw [if_neg h, if_neg h]
    have e : 2 * Q + t = (2 * r + t) + b * (2 * q) := by
      rw [Nat.mul_left_comm b 2 q]; omega
    rw [e, Nat.add_mul_div_left _ _ hb, Nat.add_mul_mod_self_left, Nat.div_eq_of_lt (by omega), Nat.mod_eq_of_lt (by omega)]
    exact ⟨by omega, by omega⟩
theorem bits_next (A i : Nat) : A / 2 ^ i = 2 * (A / 2 ^ (i + 1)) + A / 2 ^ i % 2 := by
  rw [Nat.pow_succ, ← Nat.div_div_eq_div_mul]
  omega
theorem shl32_one {s : Nat} (hs : s < 32) : shl .u32 1 ((s : Nat) : Int) = ((2 ^ s : Nat) : Int) := by
  have hp : 2 ^ s ≤ 2 ^ 31 := Nat.pow_le_pow_right (by decide) (by omega)
  have e : (1 : Int) * 2 ^ s = ((2 ^ s : Nat) : Int) := by rw [Int.one_mul, Int.natCast_pow]; rfl
  unfold shl
  rw [Int.toNat_natCast, Nat.min_eq_left (by simp [IntKind.bits]; omega), e]
  obtain ⟨P, hP⟩ : ∃ P, 2 ^ s = P := ⟨_, rfl⟩
  rw [hP] at hp ⊢
  simp only [IntKind.wrap, IntKind.bits, IntKind.signed]
  simp
  omega
theorem set_bit {q : List Nat} (hq : Lim q) {i m : Nat} (hi : i / 32 < q.length) (hv : val q = 2 ^ (i + 1) * m) :
    q.getD (i / 32) 0 + 2 ^ (i % 32) < 4294967296 ∧ val (q.set (i / 32) (q.getD (i / 32) 0 + 2 ^ (i % 32))) = val q + 2 ^ i := by
  have hs : i % 32 < 32 := Nat.mod_lt _ (by decide)
  have hl := lim_get hq (i / 32)
  have hg := getD_val hq (i / 32)
  have e : i = 32 * (i / 32) + i % 32 := by omega
  constructor
  · have h1 : val q / 4294967296 ^ (i / 32) = 2 ^ (i % 32 + 1) * m := by
      rw [hv, pow32, show i + 1 = 32 * (i / 32) + (i % 32 + 1) by omega, Nat.pow_add, Nat.mul_assoc, Nat.mul_div_cancel_left _ (Nat.two_pow_pos _)]
    have h2 : 2 ^ (i % 32 + 1) ∣ 4294967296 := ⟨2 ^ (31 - i % 32), by rw [← Nat.pow_add, show i % 32 + 1 + (31 - i % 32) = 32 by omega]⟩
    have h3 : 2 ^ (i % 32 + 1) ∣ q.getD (i / 32) 0 := by
      rw [hg, h1]
      exact (Nat.dvd_mod_iff h2).2 (Nat.dvd_mul_right _ _)
    obtain ⟨u, hu⟩ := h2
    obtain ⟨v, hv⟩ := h3
    have hlt : v < u := by
      rw [hv, hu] at hl
      exact Nat.lt_of_mul_lt_mul_left hl
    have h4 : 2 ^ (i % 32 + 1) * (v + 1) ≤ 2 ^ (i % 32 + 1) * u := Nat.mul_le_mul_left _ hlt
    rw [← hu, Nat.mul_add, Nat.mul_one, ← hv] at h4
    have h5 : 2 ^ (i % 32) < 2 ^ (i % 32 + 1) := Nat.pow_lt_pow_right (by decide) (by omega)
    omega
  · have h1 := val_set (l := q) hi (q.getD (i / 32) 0 + 2 ^ (i % 32))
    rw [Nat.mul_add] at h1
    have h2 : 4294967296 ^ (i / 32) * 2 ^ (i % 32) = 2 ^ i := by rw [pow32, ← Nat.pow_add, ← e]
    omega
theorem val_one : val [1] = 1 := rfl
theorem divide_loop {a b : List Nat} (ha : Lim a) (hb : Lim b) (hla : a.length ≤ 10000) (hlb : b.length ≤ 10000) (hb0 : val b ≠ 0) {n : Nat} (hn : n ≤ 1000000) : ∀ (t : Nat) (q : List Nat), t ≤ n → Lim q → q.length = n / 32 + 1 → val q = 2 ^ t * (val a / 2 ^ t / val b) →
    Ev (fun k => sibylref01_Divide.l0 k (U a) (U b) (U q) (U (norm (val a / 2 ^ t % val b))) ((t : Int) - 1)) (U (norm (val a / val b)), U (norm (val a % val b))) := by
  intro t
  induction t with
  | zero =>
    intro q ht hq hlen hv
    rw [Nat.pow_zero, Nat.div_one, Nat.one_mul] at hv
    rw [Nat.pow_zero, Nat.div_one]
    refine Ev.step (f := fun k => (sibylref01_Trim.f k (U q)).bind fun t => some (t, U (norm (val a % val b)))) (fun k => ?_) ?_
    · simp only [sibylref01_Divide.l0]
      rw [if_neg (by omega)]
    · have h := trim_ev hq (by omega)
      rw [hv] at h
      exact Ev.bind h (Ev.now _)
  | succ i ih =>
    intro q ht hq hlen hv
    have hbp : 0 < val b := by omega
    have hi1 : (((i + 1 : Nat) : Int) - 1) = (i : Int) := by omega
    have hi2 : wrap64 ((i : Int) - 1) = (i : Int) - 1 := by unfold wrap64; omega
    rw [hi1]
    have hbit := bit_ev ha (by omega) (i := i) (by omega)
    have hnx := bits_next (val a) i
    obtain ⟨Q, hQ⟩ : ∃ Q, val a / 2 ^ (i + 1) = Q := ⟨_, rfl⟩
    obtain ⟨A, hA⟩ : ∃ A, val a / 2 ^ i = A := ⟨_, rfl⟩
    rw [hA] at hbit hnx
    rw [hQ] at hnx hv ⊢
    have ht1 : A % 2 ≤ 1 := by omega
    obtain ⟨d1, d2⟩ := div_step (Q := Q) hbp ht1
    rw [← hnx] at d1 d2
    have hrl := Nat.mod_lt Q hbp
    have vb := val_lt hb
    have nl : ∀ z, z ≤ 2 * val b → (norm z).length ≤ b.length + 1 := by
      intro z hz
      refine norm_length_le ?_
      rw [Nat.pow_succ]
      generalize 4294967296 ^ b.length = P at *
      omega
    clear vb
    have hsh := shl_ev (lim_norm (Q % val b)) (by have := nl (Q % val b) (by omega); omega) (n := 1) (by omega)
    rw [val_norm, Nat.pow_one] at hsh
    -- the step at the comparison, with what the remainder has become
    have core : ∀ z, z = 2 * (Q % val b) + A % 2 → Ev (fun k => sibylref01_Divide.j1 k (U a) (U b) (U q) (U (norm z)) (i : Int)) (U (norm (val a / val b)), U (norm (val a % val b))) := by
      intro z hz
      rw [← hz] at d1 d2
      have hzl : z ≤ 2 * val b := by omega
      have hcmp := cmp_ev (lim_norm z) hb (by have := nl z hzl; omega) (by omega)
      rw [val_norm] at hcmp
      by_cases hge : val b ≤ z
      · rw [if_pos hge] at d1 d2
        obtain ⟨s1, s2⟩ := set_bit hq (i := i) (m := Q / val b) (by omega) hv
        have hmi := minus_ev (lim_norm z) hb (by have := nl z hzl; omega) (by omega) (by rw [val_norm]; exact hge)
        rw [val_norm, ← d2] at hmi
        have hnext := ih (q.set (i / 32) (q.getD (i / 32) 0 + 2 ^ (i % 32))) (by omega) (lim_set hq s1) (by simpa using hlen) (by
          rw [s2, hv, hA, d1, Nat.mul_add, Nat.pow_succ, Nat.mul_one, Nat.mul_assoc])
        rw [hA] at hnext
        refine Ev.step (f := _) (fun k => by simp only [sibylref01_Divide.j1]; rfl) ?_
        refine Ev.bind hcmp ?_
        refine Ev.congr (fun k => if_pos (by rw [if_neg (by omega)]; split <;> omega)) ?_
        refine Ev.bind hmi ?_
        refine Ev.congr (fun k => ?_) hnext
        rw [shl_tdiv, w64 (x := ((i / 32 : Nat) : Int)) (by omega) (by omega), shl_tmod, wuN (by omega), if_pos (by omega), if_pos (by rw [U_length]; omega), if_pos (by omega), rd_U, shl32_one (Nat.mod_lt _ (by decide)), ← Int.natCast_add, modB s1, Int.toNat_natCast, U_set, hi2]
      · rw [if_neg hge] at d1 d2
        have hnext := ih q (by omega) hq hlen (by
          rw [hv, hA, d1, Nat.pow_succ, Nat.add_zero, Nat.mul_assoc])
        rw [hA, d2, Nat.sub_zero] at hnext
        refine Ev.step (f := _) (fun k => by simp only [sibylref01_Divide.j1]; rfl) ?_
        refine Ev.bind hcmp ?_
        refine Ev.congr (fun k => if_neg (by rw [if_pos (by omega)]; omega)) ?_
        rw [hi2]
        exact hnext
    refine Ev.step (f := _) (fun k => by simp only [sibylref01_Divide.l0]; rfl) ?_
    refine Ev.congr (fun k => if_pos (by omega)) ?_
    refine Ev.bind hsh ?_
    refine Ev.congr (fun k => by rw [hbit, Option.bind_some]) ?_
    by_cases h1 : A % 2 = 1
    · refine Ev.congr (fun k => if_pos (decide_eq_true h1)) ?_
      have hpl := plus_ev (lim_norm (Q % val b * 2)) (lim_one (x := 1) (by omega)) (by have := nl (Q % val b * 2) (by omega); omega) (by simp)
      rw [val_norm, val_one] at hpl
      exact Ev.bind hpl (core _ (by omega))
    · refine Ev.congr (fun k => if_neg (by rw [decide_eq_false h1]; decide)) ?_
      exact core _ (by omega)
theorem divide_ev {a b : List Nat} (ha : Lim a) (hb : Lim b) (hla : a.length ≤ 10000) (hlb : b.length ≤ 10000) (hb0 : val b ≠ 0) : Ev (fun k => sibylref01_Divide.f k (U a) (U b)) (U (norm (val a / val b)), U (norm (val a % val b))) := by
  unfold sibylref01_Divide.f
  refine Ev.bind (bits_ev ha (by omega)) ?_
  have hsz : size (val a) ≤ 32 * a.length := size_le_of_lt (by rw [← pow32]; exact val_lt ha)
  have h := divide_loop ha hb hla hlb hb0 (n := size (val a)) (by omega) (size (val a)) (List.replicate (size (val a) / 32 + 1) 0) (Nat.le_refl _) (lim_replicate _) (by simp) (by
    rw [val_replicate, Nat.div_eq_of_lt (size_lt (val a)), Nat.zero_div, Nat.mul_zero])
  rw [Nat.div_eq_of_lt (size_lt (val a)), Nat.zero_mod, norm_zero, U_replicate] at h
  have hw : wrap64 (wrap64 (Int.tdiv ((size (val a) : Nat) : Int) 32) + 1) = ((size (val a) / 32 + 1 : Nat) : Int) := by rw [shl_tdiv]; unfold wrap64; omega
  rw [hw, w64 (x := ((size (val a) : Nat) : Int) - 1) (by omega) (by omega)]
  refine Ev.congr (fun k => ?_) h
  rw [if_pos (by omega), if_pos (by rw [Int.toNat_natCast]; omega), Int.toNat_natCast]; rfl
end Go.Proofs.Ytjppanekddljbaa.Lb
/- A quotient rounded, plain: how many places more are reckoned does not matter, once there are enough. -/
namespace Go.Proofs.Ytjppanekddljbaa.Fl
open Ieee
/-- a quotient with k places more, and a digit that tells whether there is a rest -/
def dq (M N k : Nat) : Nat := 2 * (M * 2 ^ k / N) + (M * 2 ^ k % N != 0).toNat
theorem dq_sticky {M N k s : Nat} (hN : 0 < N) : sticky (dq M N (k + s)) (s + 1) = dq M N k := by
  have e : M * 2 ^ (k + s) = M * 2 ^ k * 2 ^ s := by rw [Nat.pow_add, Nat.mul_assoc]
  have hp : 0 < 2 ^ s := Nat.two_pow_pos s
  obtain ⟨D, hD⟩ : ∃ D, M * 2 ^ k = D := ⟨_, rfl⟩
  unfold dq sticky
  rw [e, hD]
  have hb : (D * 2 ^ s % N != 0).toNat ≤ 1 := by cases (D * 2 ^ s % N != 0) <;> decide
  obtain ⟨Q, hQ⟩ : ∃ Q, D * 2 ^ s / N = Q := ⟨_, rfl⟩
  obtain ⟨b, hbe⟩ : ∃ b, (D * 2 ^ s % N != 0).toNat = b := ⟨_, rfl⟩
  rw [hQ, hbe]
  rw [hbe] at hb
  have hdiv : Q / 2 ^ s = D / N := by
    rw [← hQ, Nat.div_div_eq_div_mul, Nat.mul_comm N, ← Nat.div_div_eq_div_mul, Nat.mul_div_cancel _ hp]
  have h1 : (2 * Q + b) / 2 ^ (s + 1) = D / N := by
    rw [Nat.pow_succ, Nat.mul_comm (2 ^ s) 2, ← Nat.div_div_eq_div_mul, show (2 * Q + b) / 2 = Q by omega, hdiv]
  have hrest : (2 * Q + b) % 2 ^ (s + 1) = 0 ↔ D % N = 0 := by
    constructor
    · intro h
      have hb0 : b = 0 := by
        have : (2 * Q + b) % 2 = 0 := by
          have := Nat.dvd_of_mod_eq_zero h
          have h2 : 2 ∣ 2 ^ (s + 1) := ⟨2 ^ s, by rw [Nat.pow_succ, Nat.mul_comm]⟩
          exact Nat.mod_eq_zero_of_dvd (Nat.dvd_trans h2 this)
        omega
      subst hb0
      have hr : D * 2 ^ s % N = 0 := by
        rcases Nat.eq_zero_or_pos (D * 2 ^ s % N) with h0 | h0
        · exact h0
        · have : (D * 2 ^ s % N != 0) = true := by simp; omega
          rw [this] at hbe; simp at hbe
      have hq : Q % 2 ^ s = 0 := by
        have h3 : (2 * Q) % (2 * 2 ^ s) = 2 * (Q % 2 ^ s) := Nat.mul_mod_mul_left 2 Q (2 ^ s)
        rw [Nat.pow_succ, Nat.mul_comm (2 ^ s) 2] at h
        simp only [Nat.add_zero] at h
        omega
      have hq2 : Q = D / N * 2 ^ s := by
        have := Nat.div_add_mod Q (2 ^ s)
        rw [hq, hdiv, Nat.mul_comm] at this
        omega
      have hD2 : D * 2 ^ s = N * Q := by
        have := Nat.div_add_mod (D * 2 ^ s) N
        rw [hr, hQ] at this
        omega
      rw [hq2, ← Nat.mul_assoc] at hD2
      have hD3 : D = N * (D / N) := Nat.eq_of_mul_eq_mul_right hp hD2
      rw [hD3]
      exact Nat.mul_mod_right _ _
    · intro h
      have hD3 : D = N * (D / N) := by have := Nat.div_add_mod D N; omega
      have hm : D * 2 ^ s = N * (D / N * 2 ^ s) := by rw [← Nat.mul_assoc, ← hD3]
      have hb0 : b = 0 := by rw [← hbe, hm, Nat.mul_mod_right]; rfl
      have hq2 : Q = D / N * 2 ^ s := by rw [← hQ, hm, Nat.mul_div_cancel_left _ hN]
      rw [hb0, hq2, Nat.pow_succ, Nat.add_zero, show 2 * (D / N * 2 ^ s) = D / N * (2 ^ s * 2) by rw [Nat.mul_comm 2, Nat.mul_assoc]]
      exact Nat.mul_mod_left _ _
  rw [h1]
  by_cases h : D % N = 0
  · rw [h, hrest.2 h]
  · have h5 : ¬ (2 * Q + b) % 2 ^ (s + 1) = 0 := fun h2 => h (hrest.1 h2)
    have e1 : ((2 * Q + b) % 2 ^ (s + 1) != 0) = true := by simpa using h5
    have e2 : (D % N != 0) = true := by simpa using h
    rw [e1, e2]
theorem dq_big {M N k : Nat} : dq M N k / 2 = M * 2 ^ k / N := by
  unfold dq
  have hb : (M * 2 ^ k % N != 0).toNat ≤ 1 := by cases (M * 2 ^ k % N != 0) <;> decide
  omega
/-- more places make no difference -/
theorem rn_dq {M N k s : Nat} (E : Int) (hN : 0 < N) (h : 2 ^ 53 ≤ M * 2 ^ k / N) : rn (dq M N (k + s)) (E - (k + s : Nat) - 1) = rn (dq M N k) (E - k - 1) := by
  have h2 : dq M N (k + s) / 2 ^ (s + 1) = M * 2 ^ k / N := by
    rw [Nat.pow_succ, Nat.mul_comm (2 ^ s) 2, ← Nat.div_div_eq_div_mul, dq_big, Nat.div_div_eq_div_mul, Nat.mul_comm N, ← Nat.div_div_eq_div_mul, Nat.pow_add, ← Nat.mul_assoc, Nat.mul_div_cancel _ (Nat.two_pow_pos s)]
  have h3 := rn_sticky (n := dq M N (k + s)) (s := s + 1) (E - (k + s : Nat) - 1) (by rw [h2]; exact h)
  rw [dq_sticky hN] at h3
  rw [← h3]
  congr 1
  omega
end Go.Proofs.Ytjppanekddljbaa.Fl
/- Shares of weights, plain: what odds.Shares reckons, float by float. -/
namespace Go.Proofs.Ytjppanekddljbaa.Fl
open Ieee
def faddT (x y : Nat) : Nat := (double.add x y).getD 0
def fdivT (x y : Nat) : Nat := (double.div x y).getD 0
theorem faddT_ok {x y : Nat} (hx : x ≤ INF) (hy : y ≤ INF) : double.add x y = some (faddT x y) ∧ faddT x y ≤ INF := by
  obtain ⟨r, h, hr⟩ := add_pos hx hy
  simp [faddT, h, hr]
theorem fdivT_one {y : Nat} (hy : y ≤ INF) : double.div ONE y = some (fdivT ONE y) ∧ fdivT ONE y ≤ INF := by
  obtain ⟨r, h, hr⟩ := div_one hy
  simp [fdivT, h, hr]
theorem fdivT_fin {x y : Nat} (hx : x < INF) (hy : y ≤ INF) (h0 : y ≠ 0) : double.div x y = some (fdivT x y) ∧ fdivT x y ≤ INF := by
  obtain ⟨r, h, hr⟩ := div_fin hx hy h0
  simp [fdivT, h, hr]
/-- whole numbers as floats -/
def natF (n : Nat) : Nat := double.nearest false n 0
def stepB (n : Nat) : Bool := decide (double.add (natF n) ONE = some (natF (n + 1)) ∧ natF (n + 1) ≤ INF ∧ natF (n + 1) ≠ 0)
def stepsB : Nat → Nat → Bool
  | 0, lo => stepB lo
  | k + 1, lo => stepsB k lo && stepsB k (lo + 2 ^ k)
theorem steps_at : ∀ k lo, stepsB k lo = true → ∀ n, lo ≤ n → n < lo + 2 ^ k → stepB n = true
  | 0, lo, h, n, h1, h2 => by
    rw [show n = lo from by omega]; exact h
  | k + 1, lo, h, n, h1, h2 => by
    simp only [stepsB, Bool.and_eq_true] at h
    rw [Nat.pow_succ] at h2
    rcases Nat.lt_or_ge n (lo + 2 ^ k) with h3 | h3
    · exact steps_at k lo h.1 n h1 h3
    · exact steps_at k (lo + 2 ^ k) h.2 n h3 (by omega)
theorem steps_all : stepsB 12 0 = true := by decide +kernel
theorem natF_step {n : Nat} (h : n < 4096) : double.add (natF n) ONE = some (natF (n + 1)) ∧ natF (n + 1) ≤ INF ∧ natF (n + 1) ≠ 0 := by
  have := steps_at 12 0 steps_all n (Nat.zero_le _) (by omega)
  unfold stepB at this
  exact of_decide_eq_true this
theorem natF_zero : natF 0 = 0 := by decide
theorem natF_pos {n : Nat} (h0 : 0 < n) (h : n ≤ 4096) : natF n ≤ INF ∧ natF n ≠ 0 := by
  obtain ⟨m, rfl⟩ : ∃ m, n = m + 1 := ⟨n - 1, by omega⟩
  exact (natF_step (by omega)).2
theorem natF_le {n : Nat} (h : n ≤ 4096) : natF n ≤ INF := by
  rcases Nat.eq_zero_or_pos n with rfl | h0
  · decide
  · exact (natF_pos h0 h).1
/-- the weights' sum, and how many are infinite -/
def sumW (w : Nat → Nat) : Nat → Nat
  | 0 => 0
  | n + 1 => faddT (sumW w n) (w n)
def cntW (w : Nat → Nat) : Nat → Nat
  | 0 => 0
  | n + 1 => if w n = INF then cntW w n + 1 else cntW w n
theorem sumW_le {w : Nat → Nat} (hw : ∀ i, w i ≤ INF) : ∀ n, sumW w n ≤ INF
  | 0 => Nat.zero_le _
  | n + 1 => (faddT_ok (sumW_le hw n) (hw n)).2
theorem cntW_le (w : Nat → Nat) : ∀ n, cntW w n ≤ n
  | 0 => Nat.le_refl _
  | n + 1 => by
    have := cntW_le w n
    unfold cntW
    split <;> omega
theorem cntW_pos {w : Nat → Nat} {i : Nat} (h : w i = INF) : ∀ n, i < n → 0 < cntW w n
  | 0, hn => by omega
  | n + 1, hn => by
    unfold cntW
    rcases Nat.lt_or_ge i n with h1 | h1
    · have := cntW_pos h n h1
      split <;> omega
    · rw [show n = i from by omega, if_pos h]; omega
/-- a position's share -/
def shareW (w : Nat → Nat) (of i : Nat) : Nat :=
  if 0 < cntW w of then (if w i = INF then fdivT ONE (natF (cntW w of)) else 0)
  else if sumW w of = 0 then fdivT ONE (natF of) else fdivT (w i) (sumW w of)
end Go.Proofs.Ytjppanekddljbaa.Fl
/- Rounding is monotone; quotients and products of floats from nought to one stay there. Plain. -/
namespace Go.Proofs.Ytjppanekddljbaa.Lb
open Go.Proofs.Ytjppanekddljbaa.Fl Ieee
theorem rhe_mono {a b d : Nat} (h : a ≤ b) : rhe a d ≤ rhe b d := by
  have hp : 0 < 2 ^ d := Nat.two_pow_pos d
  have hq : a / 2 ^ d ≤ b / 2 ^ d := Nat.div_le_div_right h
  rcases Nat.lt_or_ge (a / 2 ^ d) (b / 2 ^ d) with h1 | h1
  · exact Nat.le_trans (rhe_le a d) (Nat.le_trans h1 (rhe_ge b d))
  · have he : a / 2 ^ d = b / 2 ^ d := by omega
    have da := Nat.div_add_mod a (2 ^ d)
    have db := Nat.div_add_mod b (2 ^ d)
    have hr : a % 2 ^ d ≤ b % 2 ^ d := by rw [he] at da; omega
    unfold rhe
    rw [he]
    refine Nat.add_le_add_left ?_ _
    obtain ⟨P, hP⟩ : ∃ P, 2 ^ d = P := ⟨_, rfl⟩
    rw [hP] at hr ⊢
    by_cases c1 : P < 2 * (b % P)
    · rw [decide_eq_true c1, Bool.true_or]
      exact Bool.toNat_le _
    · have c2 : ¬ P < 2 * (a % P) := by omega
      rw [decide_eq_false c1, decide_eq_false c2, Bool.false_or, Bool.false_or]
      by_cases c3 : P = 2 * (a % P)
      · have c4 : P = 2 * (b % P) := by omega
        rw [decide_eq_true c3, decide_eq_true c4]
        exact Nat.le_refl _
      · rw [decide_eq_false c3, Bool.false_and]
        exact Nat.zero_le _
theorem kept_mono {a b : Nat} (h : a ≤ b) (D : Int) : keptOf a D ≤ keptOf b D := rhe_mono (Nat.mul_le_mul_right _ h)
theorem last_mono {a b : Nat} (h0 : a ≠ 0) (h : a ≤ b) (p : Int) : lastOf a p ≤ lastOf b p := by
  have : a.log2 ≤ b.log2 := (Nat.le_log2 (by omega)).2 (Nat.le_trans (Nat.log2_self_le h0) h)
  unfold lastOf
  omega
theorem rn_mono {a b : Nat} (h : a ≤ b) (p : Int) : rn a p ≤ rn b p := by
  unfold rn
  by_cases h0 : a = 0
  · rw [if_pos h0]; exact Nat.zero_le _
  · rw [if_neg h0, if_neg (by omega)]
    have hl := last_mono h0 h p
    have hlow : -1074 ≤ lastOf a p := by unfold lastOf; omega
    have key : (lastOf a p + 1074).toNat * 4503599627370496 + keptOf a (lastOf a p - p) ≤ (lastOf b p + 1074).toNat * 4503599627370496 + keptOf b (lastOf b p - p) := by
      rcases Int.lt_or_eq_of_le hl with h1 | h1
      · have k1 := kept_le h0 p
        have k2 := kept_ge (man := b) (by omega) p (by omega)
        have : (lastOf a p + 1074).toNat + 1 ≤ (lastOf b p + 1074).toNat := by omega
        have := Nat.mul_le_mul_right 4503599627370496 this
        omega
      · rw [← h1]
        exact Nat.add_le_add_left (kept_mono h _) _
    omega
theorem rn_val {x : Nat} (h : x < INF) : rn (Fl.valOf x) (-1074) = x := by
  unfold Fl.valOf
  rw [rn_shift]
  have e := rung_eq x
  have hm := magOf_lt x
  by_cases h0 : magOf x = 0
  · have : expOf x = 0 := by
      rcases Nat.eq_zero_or_pos (expOf x) with h1 | h1
      · exact h1
      · have := mag_ge h1; omega
    rw [h0] at e ⊢
    rw [this] at e
    unfold rn
    rw [if_pos rfl]
    omega
  · have hlog : (magOf x).log2 ≤ 52 := by
      have : (magOf x).log2 < 53 := (Nat.log2_lt h0).2 (by omega)
      omega
    have hlast : lastOf (magOf x) (-1074 + ((expOf x : Nat) : Int)) = -1074 + ((expOf x : Nat) : Int) := by
      unfold lastOf
      rcases Nat.eq_zero_or_pos (expOf x) with h1 | h1
      · rw [h1]; omega
      · have hg := mag_ge h1
        have : 52 ≤ (magOf x).log2 := (Nat.le_log2 h0).2 (by omega)
        omega
    unfold rn
    rw [if_neg h0, hlast, Int.sub_self]
    have hk : keptOf (magOf x) 0 = magOf x := by unfold keptOf; simp [rhe_zero]
    rw [hk]
    unfold INF at h
    have : (-1074 + ((expOf x : Nat) : Int) + 1074).toNat = expOf x := by omega
    rw [this, ← e]
    omega
theorem rn_one : rn 1 0 = ONE := by decide +kernel
theorem rn_one_pow (p : Nat) : rn (2 ^ p) (-(p : Int)) = ONE := by
  have e : 2 ^ p = 1 * 2 ^ p := (Nat.one_mul _).symm
  have e2 : -(p : Int) + (p : Int) = 0 := Int.add_left_neg _
  rw [e, rn_shift, e2, rn_one]
theorem rn_le_one {m p : Nat} (h : m ≤ 2 ^ p) : rn m (-(p : Int)) ≤ ONE := by
  rw [← rn_one_pow p]
  exact rn_mono h _
theorem nearest_pos (m : Nat) (p : Int) : double.nearest false m p = rn m p := by rw [nearest_eq, if_neg (by decide)]
theorem add_rn {x y : Nat} (hx : x < INF) (hy : y < INF) : faddT x y = rn (Fl.valOf x + Fl.valOf y) (-1074) := by
  unfold faddT Format.add
  rw [fin_pos hx, fin_pos hy]
  obtain ⟨i, hi⟩ : ∃ i : Int, -1074 + (expOf x : Nat) = i := ⟨_, rfl⟩
  obtain ⟨j, hj⟩ : ∃ j : Int, -1074 + (expOf y : Nat) = j := ⟨_, rfl⟩
  rw [hi, hj]
  simp only [Datum.sum, Option.map_some, Option.getD_some]
  obtain ⟨b, hb⟩ : ∃ b, min i j = b := ⟨_, rfl⟩
  rw [hb]
  have e1 := shl_val x b (by omega) (by omega)
  have e2 := shl_val y b (by omega) (by omega)
  rw [hi] at e1
  rw [hj] at e2
  obtain ⟨u, hu⟩ : ∃ u : Nat, signed false (magOf x) (i - b).toNat = (u : Int) := ⟨magOf x <<< (i - b).toNat, by simp [signed]⟩
  obtain ⟨v, hv⟩ : ∃ v : Nat, signed false (magOf y) (j - b).toNat = (v : Int) := ⟨magOf y <<< (j - b).toNat, by simp [signed]⟩
  rw [hu] at e1 ⊢
  rw [hv] at e2 ⊢
  have hneg : (if (u : Int) + (v : Int) = 0 then (false && false) else decide ((u : Int) + (v : Int) < 0)) = false := by
    split
    · rfl
    · exact decide_eq_false (by omega)
  rw [hneg]
  show double.nearest false _ _ = _
  rw [nearest_pos]
  have e3 : u * 2 ^ (b + 1074).toNat = Fl.valOf x := by
    rw [← Int.natCast_mul] at e1; omega
  have e4 : v * 2 ^ (b + 1074).toNat = Fl.valOf y := by
    rw [← Int.natCast_mul] at e2; omega
  rw [← e3, ← e4, ← Nat.add_mul, rn_shift]
  congr 1
  omega
theorem add_inf {x y : Nat} (hx : x ≤ INF) (hy : y ≤ INF) (h : x = INF ∨ y = INF) : faddT x y = INF := by
  unfold faddT Format.add
  have w : double.write (.infinity false) = INF := by decide
  rcases h with rfl | rfl
  · rw [inf_pos]
    rcases read_pos hy with ⟨n, f, g⟩ | g <;> rw [g] <;> simp only [Datum.sum] <;> simp [w]
  · rw [inf_pos]
    rcases read_pos hx with ⟨n, f, g⟩ | g <;> rw [g] <;> simp only [Datum.sum] <;> simp [w]
theorem add_ge {x y : Nat} (hx : x ≤ INF) (hy : y ≤ INF) : x ≤ faddT x y ∧ y ≤ faddT x y := by
  by_cases h : x = INF ∨ y = INF
  · rw [add_inf hx hy h]; exact ⟨hx, hy⟩
  · have h1 : x < INF := by omega
    have h2 : y < INF := by omega
    rw [add_rn h1 h2]
    constructor
    · have := rn_mono (a := Fl.valOf x) (b := Fl.valOf x + Fl.valOf y) (by omega) (-1074)
      rwa [rn_val h1] at this
    · have := rn_mono (a := Fl.valOf y) (b := Fl.valOf x + Fl.valOf y) (by omega) (-1074)
      rwa [rn_val h2] at this
theorem sumW_ge {w : Nat → Nat} (hw : ∀ i, w i ≤ INF) {i : Nat} : ∀ n, i < n → w i ≤ sumW w n
  | 0, h => by omega
  | n + 1, h => by
    have h1 := add_ge (sumW_le hw n) (hw n)
    unfold sumW
    rcases Nat.lt_or_ge i n with h2 | h2
    · exact Nat.le_trans (sumW_ge hw n h2) h1.1
    · rw [show i = n by omega]; exact h1.2
theorem dq_scale (m t N k : Nat) : dq (m * 2 ^ t) N k = dq m N (k + t) := by
  unfold dq
  rw [Nat.mul_assoc, ← Nat.pow_add, Nat.add_comm t k]
theorem dq_under (m n u k : Nat) : dq m (n * 2 ^ u) (k + u) = dq m n k := by
  unfold dq
  have hp : 0 < 2 ^ u := Nat.two_pow_pos u
  rw [Nat.pow_add, ← Nat.mul_assoc, Nat.mul_div_mul_right _ _ hp, Nat.mul_mod_mul_right]
  congr 2
  rw [Bool.eq_iff_iff, bne_iff_ne, bne_iff_ne, ne_eq, ne_eq, Nat.mul_eq_zero]
  constructor
  · intro h h2; exact h (.inl h2)
  · intro h h2; rcases h2 with h2 | h2
    · exact h h2
    · omega
theorem rn_dq_any {M N k l : Nat} (E : Int) (hN : 0 < N) (h1 : 2 ^ 53 ≤ M * 2 ^ k / N) (h2 : 2 ^ 53 ≤ M * 2 ^ l / N) : rn (dq M N k) (E - k - 1) = rn (dq M N l) (E - l - 1) := by
  rcases Nat.le_total k l with h | h
  · obtain ⟨s, rfl⟩ : ∃ s, l = k + s := ⟨l - k, by omega⟩
    exact (rn_dq E hN h1).symm
  · obtain ⟨s, rfl⟩ : ∃ s, k = l + s := ⟨k - l, by omega⟩
    exact rn_dq E hN h2
/-- how many places more Ieee reckons -/
def moreOf (M N : Nat) : Nat := 54 + N.log2 - M.log2
theorem more_big {M N : Nat} (hM : M ≠ 0) (hN : N ≠ 0) : 2 ^ 53 ≤ M * 2 ^ moreOf M N / N := by
  rw [Nat.le_div_iff_mul_le (by omega)]
  have h1 := Nat.log2_self_le hM
  have h2 := Nat.lt_log2_self (n := N)
  have h3 : 2 ^ M.log2 * 2 ^ moreOf M N ≤ M * 2 ^ moreOf M N := Nat.mul_le_mul_right _ h1
  rw [← Nat.pow_add] at h3
  have h4 : 2 ^ (54 + N.log2) ≤ 2 ^ (M.log2 + moreOf M N) := Nat.pow_le_pow_right (by decide) (by unfold moreOf; omega)
  have h5 : 2 ^ 53 * N ≤ 2 ^ 53 * 2 ^ (N.log2 + 1) := Nat.mul_le_mul_left _ (Nat.le_of_lt h2)
  rw [← Nat.pow_add] at h5
  rw [show 53 + (N.log2 + 1) = 54 + N.log2 by omega] at h5
  omega
theorem div_rn {x y : Nat} (hx : x < INF) (hy : y < INF) (h0 : y ≠ 0) : fdivT x y = rn (dq (magOf x) (magOf y) (moreOf (magOf x) (magOf y))) (((expOf x : Nat) : Int) - (expOf y : Nat) - (moreOf (magOf x) (magOf y) : Nat) - 1) := by
  unfold fdivT Format.div
  rw [fin_pos hx, fin_pos hy]
  have hm : magOf y ≠ 0 := by
    intro hz
    have := rung_eq y
    have : expOf y = 0 := by
      rcases Nat.eq_zero_or_pos (expOf y) with h | h
      · exact h
      · have := mag_ge h; omega
    omega
  simp only [Datum.quotient]
  rw [if_neg hm]
  show double.nearest false (2 * (magOf x <<< (double.fractionBits + 2 + (magOf y).log2 - (magOf x).log2) / magOf y) + (magOf x <<< (double.fractionBits + 2 + (magOf y).log2 - (magOf x).log2) % magOf y != 0).toNat) ((-1074 + (expOf x : Nat)) - (-1074 + (expOf y : Nat)) - (double.fractionBits + 2 + (magOf y).log2 - (magOf x).log2 : Nat) - 1) = _
  rw [nearest_pos, dfrac, Nat.shiftLeft_eq]
  unfold dq moreOf
  congr 1
  omega
theorem mag_ne {x : Nat} (h : x ≠ 0) : magOf x ≠ 0 := by
  intro hz
  have := rung_eq x
  have : expOf x = 0 := by
    rcases Nat.eq_zero_or_pos (expOf x) with h | h
    · exact h
    · have := mag_ge h; omega
  omega
theorem div_zero {y : Nat} (hy : y ≤ INF) (h0 : y ≠ 0) : fdivT 0 y = 0 := by
  by_cases h : y = INF
  · subst h; decide
  · rw [div_rn (by decide) (by omega) h0, show magOf 0 = 0 by decide]
    have : dq 0 (magOf y) (moreOf 0 (magOf y)) = 0 := by unfold dq; simp
    rw [this]
    exact if_pos rfl
theorem div_by_inf {x : Nat} (hx : x < INF) : fdivT x INF = 0 := by
  unfold fdivT Format.div
  rw [fin_pos hx, inf_pos]
  simp only [Datum.quotient]
  decide
theorem log_le_of {M N a b : Nat} (hM : M ≠ 0) (hN : N ≠ 0) (h : M * 2 ^ a ≤ N * 2 ^ b) : M.log2 + a ≤ N.log2 + b := by
  have h1 : M * 2 ^ a ≠ 0 := Nat.mul_ne_zero hM (Nat.ne_of_gt (Nat.two_pow_pos _))
  have h2 : N * 2 ^ b ≠ 0 := Nat.mul_ne_zero hN (Nat.ne_of_gt (Nat.two_pow_pos _))
  have h3 : (M * 2 ^ a).log2 ≤ (N * 2 ^ b).log2 := (Nat.le_log2 h2).2 (Nat.le_trans (Nat.log2_self_le h1) h)
  rwa [log2_mul hM, log2_mul hN] at h3
/-- a quotient of a float by one that is no less is one at most -/
theorem div_le_one {x y : Nat} (hx : x < INF) (hxy : x ≤ y) (hy : y ≤ INF) (h0 : y ≠ 0) : fdivT x y ≤ ONE := by
  by_cases hz : x = 0
  · subst hz; rw [div_zero hy h0]; decide
  by_cases hi : y = INF
  · subst hi; rw [div_by_inf hx]; decide
  rw [div_rn hx (by omega) h0]
  have hm := mag_ne hz
  have hn := mag_ne h0
  have hv : Fl.valOf x ≤ Fl.valOf y := by
    rcases Nat.lt_or_eq_of_le hxy with h | h
    · exact Nat.le_of_lt (Fl.val_lt h)
    · rw [h]; exact Nat.le_refl _
  unfold Fl.valOf at hv
  obtain ⟨M, hM⟩ : ∃ M, magOf x = M := ⟨_, rfl⟩
  obtain ⟨N, hN⟩ : ∃ N, magOf y = N := ⟨_, rfl⟩
  obtain ⟨a, ha⟩ : ∃ a, expOf x = a := ⟨_, rfl⟩
  obtain ⟨b, hb⟩ : ∃ b, expOf y = b := ⟨_, rfl⟩
  rw [hM] at hv hm ⊢
  rw [hN] at hv hn ⊢
  rw [ha] at hv ⊢
  rw [hb] at hv ⊢
  have hlog := log_le_of hm hn hv
  obtain ⟨S, hS⟩ : ∃ S, moreOf M N = S := ⟨_, rfl⟩
  have hSb : a ≤ S + b := by rw [← hS]; unfold moreOf; omega
  rw [hS]
  obtain ⟨p, hp⟩ : ∃ p : Nat, ((a : Nat) : Int) - (b : Nat) - (S : Nat) - 1 = -((p + 1 : Nat) : Int) := ⟨S + b - a, by omega⟩
  rw [hp]
  refine rn_le_one ?_
  have hpe : p + a = S + b := by omega
  -- M * 2 ^ S ≤ N * 2 ^ p
  have hle : M * 2 ^ S ≤ N * 2 ^ p := by
    refine Nat.le_of_mul_le_mul_right (c := 2 ^ a) ?_ (Nat.two_pow_pos a)
    rw [Nat.mul_assoc N, ← Nat.pow_add, hpe, Nat.mul_right_comm, Nat.pow_add, Nat.mul_comm (2 ^ S), ← Nat.mul_assoc]
    exact Nat.mul_le_mul_right _ hv
  unfold dq
  have hNp : 0 < N := by omega
  have hq : M * 2 ^ S / N ≤ 2 ^ p := Nat.div_le_of_le_mul hle
  rw [Nat.pow_succ]
  rcases Nat.lt_or_eq_of_le hq with h1 | h1
  · have hb : (M * 2 ^ S % N != 0).toNat ≤ 1 := Bool.toNat_le _
    omega
  · have hd := Nat.div_add_mod (M * 2 ^ S) N
    rw [h1] at hd ⊢
    have hr : M * 2 ^ S % N = 0 := by omega
    rw [hr]
    simp
    omega
theorem natF_rn (n : Nat) : natF n = rn n 0 := nearest_pos n 0
theorem natF_ge {n : Nat} (h : 1 ≤ n) : ONE ≤ natF n := by
  rw [natF_rn]
  have := rn_mono h 0
  rwa [rn_one] at this
theorem shareW_le_one {w : Nat → Nat} (hw : ∀ i, w i ≤ INF) {of i : Nat} (ho : of ≤ 4096) (hi : i < of) : shareW w of i ≤ ONE := by
  unfold shareW
  have hc := cntW_le w of
  by_cases h1 : 0 < cntW w of
  · rw [if_pos h1]
    split
    · have := natF_pos h1 (by omega)
      exact div_le_one (by decide) (natF_ge h1) this.1 this.2
    · decide
  · rw [if_neg h1]
    split
    · have := natF_pos (n := of) (by omega) ho
      exact div_le_one (by decide) (natF_ge (by omega)) this.1 this.2
    · rename_i h2
      have hne : w i ≠ INF := fun h => h1 (cntW_pos h of hi)
      have := hw i
      exact div_le_one (by omega) (sumW_ge hw of hi) (sumW_le hw of) h2
def mulT (x y : Nat) : Nat := (double.mul x y).getD 0
theorem mul_rn {x y : Nat} (hx : x < INF) (hy : y < INF) : double.mul x y = some (rn (magOf x * magOf y) (-2148 + ((expOf x + expOf y : Nat) : Int))) := by
  unfold Format.mul
  rw [fin_pos hx, fin_pos hy]
  simp only [Datum.product, Option.map_some]
  show some (double.nearest false _ _) = _
  rw [nearest_pos]
  congr 2
  omega
theorem two_pows {a b c : Nat} (h : a + b = c) : 2 ^ a * 2 ^ b = 2 ^ c := by rw [← Nat.pow_add, h]
theorem one_val {p : Nat} (hp : 1074 = p) : Fl.valOf ONE = 2 ^ p := by
  have e : expOf ONE = p - 52 := by rw [← hp]; decide
  unfold Fl.valOf
  rw [show magOf ONE = 2 ^ 52 by decide, e]
  exact two_pows (by omega)
theorem le_one_val {x p : Nat} (hp : 1074 = p) (h : x ≤ ONE) : Fl.valOf x ≤ 2 ^ p := by
  rw [← one_val hp]
  rcases Nat.lt_or_eq_of_le h with h | h
  · exact Nat.le_of_lt (Fl.val_lt h)
  · rw [h]; exact Nat.le_refl _
theorem mul_le_one {x y : Nat} (hx : x ≤ ONE) (hy : y ≤ ONE) : double.mul x y = some (mulT x y) ∧ mulT x y ≤ ONE := by
  have hI : ONE < INF := by decide
  have h := mul_rn (x := x) (y := y) (by omega) (by omega)
  refine ⟨by unfold mulT; rw [h]; rfl, ?_⟩
  unfold mulT
  rw [h, Option.getD_some, ← rn_shift]
  obtain ⟨p, hp⟩ : ∃ p : Nat, 1074 = p := ⟨_, rfl⟩
  have h1 := le_one_val hp hx
  have h2 := le_one_val hp hy
  have e2 : (-2148 : Int) = -((p + p : Nat) : Int) := by omega
  rw [e2]
  refine rn_le_one (p := p + p) ?_
  have h3 : Fl.valOf x * Fl.valOf y ≤ 2 ^ p * 2 ^ p := Nat.mul_le_mul h1 h2
  rw [two_pows (c := p + p) rfl] at h3
  have h4 : magOf x * magOf y * 2 ^ (expOf x + expOf y) = Fl.valOf x * Fl.valOf y := by
    unfold Fl.valOf
    rw [Nat.pow_add, Nat.mul_assoc, Nat.mul_assoc]
    congr 1
    rw [Nat.mul_left_comm]
  rw [h4]
  exact h3
end Go.Proofs.Ytjppanekddljbaa.Lb
/- The reference's Int, Div and Mul are Ieee's, of floats from nought on. -/
namespace Go.Proofs.Ytjppanekddljbaa.Lb
open Go.RowKit Go.Proofs.Ytjppanekddljbaa.Pr Go.Proofs.YtjppanekddljbaaW.PrintWords Go.Proofs.YtjppanekddljbaaW.PrintLast Go.Proofs.YtjppanekddljbaaW.PrintMore
open Go.Proofs.Ytjppanekddljbaa.Fl Ieee
theorem signedW_false (r : Nat) : signedW false r = r := by unfold signedW; rw [if_neg (by decide)]
theorem int_ev {n : Nat} (h1 : 1 ≤ n) (h2 : n ≤ 4096) : Ev (fun k => sibylref21_Int.f k (n : Int)) ((natF n : Nat) : Int) := by
  unfold sibylref21_Int.f
  rw [wuN (by omega), natF_rn]
  have h := join_ev (neg := false) (man := n) (exp := 0) (by omega) (by omega) (by omega) (by omega)
  rw [signedW_false] at h
  exact Ev.bind h (Ev.now _)
theorem parts_pos {x : Nat} (h0 : x ≠ 0) (h : x < INF) : ∃ m t : Nat, magOf x = m * 2 ^ t ∧ m ≠ 0 ∧ m < 9007199254740992 ∧ t ≤ 52 ∧ Ev (fun k => sibylref03_Parts.f k (x : Int)) (false, (m : Int), -1074 + ((expOf x : Nat) : Int) + (t : Int), 0) := by
  unfold INF at h
  have hr : x % 9223372036854775808 = x := Nat.mod_eq_of_lt (by omega)
  obtain ⟨m, t, h1, h2, h3⟩ := parts_ev (x := x) (by omega) (by omega)
  rw [hr] at h1 h3
  rw [show decide ((x : Int) ≥ 9223372036854775808) = false from decide_eq_false (by omega)] at h3
  have hml := magOf_lt x
  have hp := Nat.two_pow_pos t
  have hle : m ≤ m * 2 ^ t := Nat.le_mul_of_pos_right _ hp
  have ht : t ≤ 52 := by
    have h4 : 2 ^ t ≤ m * 2 ^ t := Nat.le_mul_of_pos_left _ (by omega)
    have h5 : 2 ^ t < 2 ^ 53 := by omega
    have := (Nat.pow_lt_pow_iff_right (by decide : 1 < 2)).1 h5
    omega
  exact ⟨m, t, h1, by omega, by omega, ht, h3⟩
theorem exp_le {x : Nat} (h : x < INF) : expOf x ≤ 2045 := by unfold INF at h; unfold expOf; omega
theorem dq_odd {m n t u : Nat} (E : Int) (hm : m ≠ 0) (hn : n ≠ 0) (hn53 : n < 9007199254740992) :
    rn (dq (m * 2 ^ t) (n * 2 ^ u) (moreOf (m * 2 ^ t) (n * 2 ^ u))) (E - (moreOf (m * 2 ^ t) (n * 2 ^ u) : Nat) - 1) = rn (dq m n 128) (E + (t : Nat) - (u : Nat) - (128 : Nat) - 1) := by
  have hp : 0 < 2 ^ t := Nat.two_pow_pos t
  have hpu : 0 < 2 ^ u := Nat.two_pow_pos u
  have hM : m * 2 ^ t ≠ 0 := Nat.mul_ne_zero hm (by omega)
  have hN : n * 2 ^ u ≠ 0 := Nat.mul_ne_zero hn (by omega)
  have hbig := more_big hM hN
  obtain ⟨S, hS⟩ : ∃ S, moreOf (m * 2 ^ t) (n * 2 ^ u) = S := ⟨_, rfl⟩
  rw [hS] at hbig ⊢
  rw [← rn_dq (s := u) E (by omega) hbig, dq_scale, show S + u + t = S + t + u by omega, dq_under]
  have h1 : 2 ^ 53 ≤ m * 2 ^ (S + t) / n := by
    refine Nat.le_trans hbig ?_
    rw [Nat.mul_assoc, ← Nat.pow_add, Nat.add_comm t S, Nat.mul_comm n, ← Nat.div_div_eq_div_mul]
    exact Nat.div_le_div_right (Nat.div_le_self _ _)
  have h2 : 2 ^ 53 ≤ m * 2 ^ 128 / n := by
    rw [Nat.le_div_iff_mul_le (by omega)]
    have h4 : n ≤ 2 ^ 75 := Nat.le_trans (Nat.le_of_lt hn53) (by decide)
    have h3 : 2 ^ 53 * n ≤ 2 ^ 53 * 2 ^ 75 := Nat.mul_le_mul_left _ h4
    rw [← Nat.pow_add] at h3
    exact Nat.le_trans h3 (Nat.le_mul_of_pos_left _ (Nat.pos_of_ne_zero hm))
  rw [← rn_dq_any (E + (t : Nat) - (u : Nat)) (by omega) h1 h2]
  congr 1
  omega
theorem size_pow {m : Nat} (hm : m < 9007199254740992) (n : Nat) : size (m * 2 ^ n) ≤ 53 + n := size_le_of_lt (by rw [Nat.pow_add]; exact Nat.mul_lt_mul_of_pos_right hm (Nat.two_pow_pos _))
theorem div_main {x y : Nat} (hx : x < INF) (hy : y < INF) (hx0 : x ≠ 0) (hy0 : y ≠ 0) : Ev (fun k => sibylref21_Div.j0 k (x : Int) (y : Int) false) ((fdivT x y : Nat) : Int) := by
  rw [div_rn hx hy hy0]
  obtain ⟨m, t, m1, m0, m53, t52, mp⟩ := parts_pos hx0 hx
  obtain ⟨n, u, n1, n0, n53, u52, np⟩ := parts_pos hy0 hy
  have ex := exp_le hx
  have ey := exp_le hy
  rw [m1, n1, dq_odd _ m0 n0 n53]
  obtain ⟨a, ha⟩ : ∃ a : Int, -1074 + ((expOf x : Nat) : Int) + (t : Int) = a := ⟨_, rfl⟩
  obtain ⟨b, hb⟩ : ∃ b : Int, -1074 + ((expOf y : Nat) : Int) + (u : Int) = b := ⟨_, rfl⟩
  rw [ha] at mp
  rw [hb] at np
  have hE : ((expOf x : Nat) : Int) - (expOf y : Nat) + (t : Nat) - (u : Nat) - (128 : Nat) - 1 = a - b - 128 - 1 := by omega
  rw [hE]
  have hm64 : m < 18446744073709551616 := by omega
  have hn64 : n < 18446744073709551616 := by omega
  have hsh := shl_ev (natural_lim hm64) (by simp) (n := 128) (by omega)
  rw [natural_val] at hsh
  have hdv := divide_ev (a := norm (m * 2 ^ 128)) (b := [n % 4294967296, n / 4294967296]) (lim_norm _) (natural_lim hn64) (Nat.le_trans (norm_len_size (n := m * 2 ^ 128) (c := 100) (Nat.le_trans (size_pow m53 128) (by decide))) (by decide)) (by simp) (by rw [natural_val]; exact n0)
  rw [natural_val, val_norm] at hdv
  have hq1 : 2 ^ 75 ≤ m * 2 ^ 128 / n := by
    rw [Nat.le_div_iff_mul_le (Nat.pos_of_ne_zero n0)]
    have h4 : n ≤ 2 ^ 53 := Nat.le_of_lt n53
    have h3 : 2 ^ 75 * n ≤ 2 ^ 75 * 2 ^ 53 := Nat.mul_le_mul_left _ h4
    rw [← Nat.pow_add] at h3
    exact Nat.le_trans h3 (Nat.le_mul_of_pos_left _ (Nat.pos_of_ne_zero m0))
  have hs128 := size_pow m53 128
  have hq2 : size (m * 2 ^ 128 / n) ≤ 181 := Nat.le_trans (size_le_of_lt (Nat.lt_of_le_of_lt (Nat.div_le_self _ _) (size_lt _))) hs128
  have hq3 : 63 ≤ size (m * 2 ^ 128 / n) := by
    have h3 := Nat.lt_of_le_of_lt hq1 (size_lt (m * 2 ^ 128 / n))
    have := (Nat.pow_lt_pow_iff_right (by decide : 1 < 2)).1 h3
    omega
  clear hs128
  obtain ⟨q, hq⟩ : ∃ q, m * 2 ^ 128 / n = q := ⟨_, rfl⟩
  obtain ⟨r, hr⟩ : ∃ r, m * 2 ^ 128 % n = r := ⟨_, rfl⟩
  have hdq : dq m n 128 = 2 * q + (r != 0).toNat := by unfold dq; rw [hq, hr]
  rw [hdq]
  rw [hq, hr] at hdv
  rw [hq] at hq2 hq3
  clear hq1 hq hr hdq
  have hrest : decide (((U (norm r)).length : Int) > 0) = (r != 0) := by
    rw [U_length]
    by_cases h : r = 0
    · subst h; rw [norm_zero]; rfl
    · rw [norm_pos h]
      have : (r != 0) = true := by simpa using h
      rw [this]
      exact decide_eq_true (by simp)
  have hrd := round_ev (l := norm q) (neg := false) (rest := r != 0) (e := a - b - 128) (lim_norm q) (by have := norm_len_size (n := q) (c := 100) (by omega); omega) (by rw [val_norm]; exact hq3) (by rw [val_norm]; omega) (by omega) (by rw [val_norm]; omega)
  rw [val_norm, signedW_false] at hrd
  have hw : wrap64 (wrap64 (a - b) - 128) = a - b - 128 := by rw [w64 (x := a - b) (by omega) (by omega), w64 (by omega) (by omega)]
  refine Ev.step (f := _) (fun k => by simp only [sibylref21_Div.j0]; rfl) ?_
  refine Ev.congr (fun k => if_neg (by decide)) ?_
  refine Ev.bind mp (Ev.bind np (Ev.bind (natural_ev' hm64) (Ev.bind hsh (Ev.bind (natural_ev' hn64) (Ev.bind hdv ?_)))))
  refine Ev.congr (fun k => by rw [hw, hrest]) ?_
  exact Ev.bind hrd (Ev.now _)
theorem div_ev {x y : Nat} (hx : x < INF) (hy : y ≤ INF) (h0 : y ≠ 0) : Ev (fun k => sibylref21_Div.f k (x : Int) (y : Int)) ((fdivT x y : Nat) : Int) := by
  unfold sibylref21_Div.f
  have htrue : Ev (fun k => sibylref21_Div.j0 k (x : Int) (y : Int) true) 0 := by
    refine Ev.step (f := fun _ => some 0) (fun k => ?_) (Ev.now _)
    simp only [sibylref21_Div.j0]
    exact if_pos trivial
  by_cases hz : x = 0
  · subst hz
    rw [div_zero hy h0]
    exact Ev.congr (fun k => if_pos rfl) htrue
  · refine Ev.congr (fun k => if_neg (by omega)) ?_
    by_cases hi : y = INF
    · subst hi
      rw [div_by_inf hx]
      exact htrue
    · have : ((y : Int) == 9218868437227405312) = false := beq_eq_false_iff_ne.mpr (by unfold INF at hi; omega)
      rw [this]
      exact div_main hx (by omega) hz h0
theorem mul_main {x y : Nat} (hx : x < INF) (hy : y < INF) (hx0 : x ≠ 0) (hy0 : y ≠ 0) : Ev (fun k => sibylref21_Mul.j0 k (x : Int) (y : Int) false) ((mulT x y : Nat) : Int) := by
  unfold mulT
  rw [mul_rn hx hy, Option.getD_some]
  obtain ⟨m, t, m1, m0, m53, t52, mp⟩ := parts_pos hx0 hx
  obtain ⟨n, u, n1, n0, n53, u52, np⟩ := parts_pos hy0 hy
  have ex := exp_le hx
  have ey := exp_le hy
  have e1 : magOf x * magOf y = m * n * 2 ^ (t + u) := by
    rw [m1, n1, Nat.pow_add, Nat.mul_assoc, Nat.mul_assoc]
    congr 1
    rw [Nat.mul_left_comm]
  obtain ⟨a, ha⟩ : ∃ a : Int, -1074 + ((expOf x : Nat) : Int) + (t : Int) = a := ⟨_, rfl⟩
  obtain ⟨b, hb⟩ : ∃ b : Int, -1074 + ((expOf y : Nat) : Int) + (u : Int) = b := ⟨_, rfl⟩
  rw [ha] at mp
  rw [hb] at np
  have hE : -2148 + ((expOf x + expOf y : Nat) : Int) + ((t + u : Nat) : Int) = a + b := by omega
  rw [e1, rn_shift, hE]
  have hm64 : m < 18446744073709551616 := by omega
  have hn64 : n < 18446744073709551616 := by omega
  have hti := times_ev (natural_lim hm64) (natural_lim hn64) (by simp) (by simp)
  rw [natural_val, natural_val] at hti
  have hsz : size (m * n) ≤ 106 := by
    refine size_le_of_lt ?_
    have h1 : m * n ≤ 9007199254740991 * 9007199254740991 := Nat.mul_le_mul (by omega) (by omega)
    omega
  have hmn : m * n ≠ 0 := Nat.mul_ne_zero m0 n0
  have hrd := round_exact (l := norm (m * n)) (neg := false) (e := a + b) (lim_norm _) (by have := norm_len_size (n := m * n) (c := 100) (by omega); omega) (by rw [val_norm]; exact hmn) (by rw [val_norm]; omega) (by omega) (by rw [val_norm]; omega)
  rw [val_norm, signedW_false] at hrd
  have hw : wrap64 (a + b) = a + b := w64 (by omega) (by omega)
  refine Ev.step (f := _) (fun k => by simp only [sibylref21_Mul.j0]; rfl) ?_
  refine Ev.congr (fun k => if_neg (by decide)) ?_
  refine Ev.bind mp (Ev.bind np (Ev.bind (natural_ev' hm64) (Ev.bind (natural_ev' hn64) (Ev.bind hti ?_))))
  refine Ev.congr (fun k => by rw [hw]) ?_
  exact Ev.bind hrd (Ev.now _)
theorem mul_ev {x y : Nat} (hx : x < INF) (hy : y < INF) : Ev (fun k => sibylref21_Mul.f k (x : Int) (y : Int)) ((mulT x y : Nat) : Int) := by
  unfold sibylref21_Mul.f
  have hz : ∀ p q : Nat, p < INF → q < INF → magOf p * magOf q = 0 → mulT p q = 0 := fun p q hp hq h => by
    unfold mulT
    rw [mul_rn hp hq, h]
    rfl
  have htrue : Ev (fun k => sibylref21_Mul.j0 k (x : Int) (y : Int) true) 0 := by
    refine Ev.step (f := fun _ => some 0) (fun k => ?_) (Ev.now _)
    simp only [sibylref21_Mul.j0]
    exact if_pos trivial
  by_cases h0 : x = 0
  · subst h0
    rw [hz 0 y hx hy (by rw [show magOf 0 = 0 by decide, Nat.zero_mul])]
    exact Ev.congr (fun k => if_pos rfl) htrue
  · refine Ev.congr (fun k => if_neg (by omega)) ?_
    by_cases h1 : y = 0
    · subst h1
      rw [hz x 0 hx hy (by rw [show magOf 0 = 0 by decide, Nat.mul_zero])]
      exact htrue
    · have : ((y : Int) == 0) = false := beq_eq_false_iff_ne.mpr (by omega)
      rw [this]
      exact mul_main hx hy h0 h1
end Go.Proofs.Ytjppanekddljbaa.Lb
/- Shares: one weight's worth, float by float. -/
namespace Go.Proofs.Ytjppanekddljbaa.H
open Go.RowKit Go.Proofs.Ytjppanekddljbaa.Pr Go.Proofs.YtjppanekddljbaaW.PrintWords Go.Proofs.YtjppanekddljbaaW.PrintLast Go.Proofs.YtjppanekddljbaaW.PrintMore
open Go.Proofs.Ytjppanekddljbaa.Fl
/-- a float is stored as any value of one cell is -/
theorem run_store_float {P : Program} (w : World) (a : Addr) (m : Mode) (k : FloatKind) (b : Nat) : (store a (.float k b) m).run P w = stored P w a (.float k b) m := run_store P w a _ m rfl
theorem worth_calls' (x : Nat) (h : x < 18446744073709551616) (w : World) :
    Calls Try.prog 47 #[.float .f64 x] w fun e w' => e = .returned (.float .f64 (worthF x)) ∧ Drawn0 w w' :=
  (worth_calls x w).mono fun _ _ ⟨he, hd⟩ => ⟨by rw [he]; exact congrArg (fun n => Ending.returned (Value.float .f64 n)) (worthF_eq h), hd⟩
/-- a row while it is filled -/
def rowAt (f : Nat → Nat) (g : Nat → Nat) (n i : Nat) : List Nat := (List.range n).map fun j => if j < i then f j else g j
theorem rowAt_set (f g : Nat → Nat) (n i : Nat) : (rowAt f g n i).set i (f i) = rowAt f g n (i + 1) := by
  apply List.ext_getElem
  · simp [rowAt]
  · intro j h1 h2
    simp only [rowAt, List.getElem_set, List.getElem_map, List.getElem_range]
    by_cases h : i = j
    · subst h; simp
    · rw [if_neg h]
      by_cases h3 : j < i
      · rw [if_pos h3, if_pos (by omega)]
      · rw [if_neg h3, if_neg (by omega)]
theorem rowAt_get (f g : Nat → Nat) {n i j : Nat} (h : j < n) : (rowAt f g n i).getD j 0 = if j < i then f j else g j := by simp [rowAt, List.getD, h]
theorem rowAt_zero (f : Nat → Nat) (n : Nat) : rowAt f (fun _ => 0) n 0 = List.replicate n 0 := by
  apply List.ext_getElem
  · simp [rowAt]
  · intro j h1 h2; simp [rowAt]
theorem rowAt_full (f g : Nat → Nat) (n : Nat) : rowAt f g n n = (List.range n).map f := by
  apply List.map_congr_left
  intro j hj
  rw [if_pos (List.mem_range.1 hj)]
theorem rowAt_next (f g h : Nat → Nat) (n : Nat) : rowAt f g n n = rowAt h f n 0 := by
  rw [rowAt_full]
  apply List.map_congr_left
  intro j hj
  rw [if_neg (by omega)]
/-- an element of an owned row of floats, read; and a store into it -/
theorem own_f_cell {W : World} {base g n cap : Nat} {ok : Nat → Prop} {xs : List Nat} (h : kf.R 25 W base ok (.slice (some ⟨g, 0, none⟩) n cap) xs) (i : Nat) (hi : i < n) : W.cell? ⟨g, i, none⟩ = some (.float .f64 (xs.getD i 0)) := by
  obtain ⟨A, c, e, hle, hc⟩ := Kd.R_reads h
  injection e with e1 e2 e3
  subst e1 e2
  obtain ⟨ad, e4, hx⟩ := at_f hc (i : Int) (by omega) (by omega)
  cases e4
  rw [add_plain] at hx
  simpa using hx
theorem own_f_set {W : World} {base g n cap : Nat} {ok : Nat → Prop} {xs : List Nat} (h : kf.R 25 W base ok (.slice (some ⟨g, 0, none⟩) n cap) xs) (i x : Nat) :
    kf.R 25 (W.setCell ⟨g, i, none⟩ (.float .f64 x)) base ok (.slice (some ⟨g, 0, none⟩) n cap) (xs.set i x) := by
  have hl : n = xs.length := by
    obtain ⟨A, c, e, _, _⟩ := Kd.R_reads h
    injection e with _ e2 _
  have ho := Kd.own_of_R (enc := Value.float .f64) h
  rw [← hl] at ho
  have h2 := (own_store_of ho (i : Int) x).1
  simp only [Int.toNat_natCast] at h2
  refine Kd.R_of_own (enc := Value.float .f64) ?_ h.1
  rw [List.length_set, ← hl]
  exact h2
theorem own_f_frozen {W : World} {base g n cap : Nat} {ok : Nat → Prop} {xs : List Nat} (h : kf.R 25 W base ok (.slice (some ⟨g, 0, none⟩) n cap) xs) (i : Nat) : W.frozen? ⟨g, i, none⟩ = false := by
  have hl : n = xs.length := by
    obtain ⟨A, c, e, _, _⟩ := Kd.R_reads h
    injection e with _ e2 _
  have ho := Kd.own_of_R (enc := Value.float .f64) h
  rw [← hl] at ho
  exact ho.frozenAt _
end Go.Proofs.Ytjppanekddljbaa.H
/- odds.Shares: what the Go code computes. -/
namespace Go.Proofs.Ytjppanekddljbaa.H
open Go.RowKit Go.Proofs.Ytjppanekddljbaa.Pr Go.Proofs.YtjppanekddljbaaW.PrintWords Go.Proofs.YtjppanekddljbaaW.PrintLast Go.Proofs.YtjppanekddljbaaW.PrintMore
open Go.Proofs.Ytjppanekddljbaa.Fl
attribute [local go_sem] run_store_float
theorem atF_lt {l : List Nat} (hl : ∀ x ∈ l, x < 18446744073709551616) (turn i : Int) : atF l turn i < 18446744073709551616 := by
  unfold atF
  split
  · omega
  · unfold oneF
    split
    · omega
    · rename_i h1 _
      have h0 : l.length ≠ 0 := fun h => h1 (.inl h)
      have hj0 : 0 ≤ (turn % l.length + i % l.length) % (l.length : Int) := Int.emod_nonneg _ (by omega)
      have hj1 : (turn % l.length + i % l.length) % (l.length : Int) < l.length := Int.emod_lt_of_pos _ (by omega)
      have hj : ((turn % l.length + i % l.length) % (l.length : Int)).toNat < l.length := by omega
      rw [List.getD, List.getElem?_eq_getElem hj]
      exact hl _ (List.getElem_mem hj)
/-- the worths of the positions -/
def wOf (l : List Nat) (turn : Int) (i : Nat) : Nat := worthF (atF l turn i)
theorem wOf_le (l : List Nat) (turn : Int) (i : Nat) : wOf l turn i ≤ INF := worthF_le _
set_option maxHeartbeats 4000000 in
set_option maxRecDepth 100000 in
theorem shares_ok (A : Option Addr) (c : Nat) (l : List Nat) (turn : Int) (n : Nat) (w : World) (hr : kf.C w A l.length l) (hc : l.length ≤ c) (hl : l.length ≤ 4611686018427387904) (hx : ∀ x ∈ l, x < 18446744073709551616) (h1 : 1 ≤ n) (h2 : n ≤ 4096) (h3 : 0 ≤ turn) (h4 : turn ≤ 9223372036854775807) :
    Calls Try.prog 21 #[.slice A l.length c, .int .i64 turn, .int .i64 n] w fun e w' => ∃ v0_ : Value, e = .returned (.tuple #[v0_, .int .i64 0]) ∧ Kd.R kf 25 w' w.heap.size (fun _ => True) v0_ ((List.range n).map (shareW (wOf l turn) n)) ∧ Below w.heap.size w w' := by
  have HR := Aside0.mk hr
  have HC := Aside0.mk hc
  have HL := Aside0.mk hl
  have HX := Aside0.mk hx
  have HW := Aside0.mk (wOf_le l turn)
  obtain ⟨W, hW⟩ : ∃ W, W = wOf l turn := ⟨_, rfl⟩
  rw [← hW] at HW
  have HWD := Aside0.mk hW
  have g1 : decide ((n : Int) < 1) = false := decide_eq_false (by omega)
  have g2 : decide (4096 < (n : Int)) = false := decide_eq_false (by omega)
  have g3 : decide (turn < 0) = false := decide_eq_false (by omega)
  have HT := Aside0.mk h4
  have HT0 := Aside0.mk h3
  have HN1 := Aside0.mk h1
  have hn2 : n ≤ 4096 := h2
  clear hr hc hl hx hW h1 h2 h3 h4
  go_enter Try.func21, Try.ntmps21
  go_wp2_with (first
    | ((with_reducible refine gate_dst (N := 25) rfl ?_); refine Kd.R_make kf _ 25 rfl (N := 25) rfl 29 _ _ rfl (n : Int) rfl rfl Try.underlying29 (.float .f64 0) 8 info25 rfl (by decide) (by omega) 0 (ok := fun _ => True) (okp := fun _ => True) rfl (fun _ hk => hk) trivial (by omega) (by omega) (Below.refl _ _) (Nat.le_refl _) ?_; intro v1 w1 ho1 hb1 hg_ hnew_; clear hg_ hnew_; (simp only [Int.toNat_natCast] at ho1); obtain ⟨g, cap, e1, hg0, _, _⟩ := Kd.R_form ho1 (by simp; exact HN1.out); rw [List.length_replicate] at e1; subst e1; have HG := Aside0.mk hg0; clear hg0; have HO1 := Aside0.mk ho1; have HB1 := Aside0.mk hb1; clear ho1 hb1))
  go_loopg [9, 10, 28] n (fun kq v9 v10 v28 w' => ∃ (i s q : Nat), v28 = .int .i64 i ∧ v9 = .float .f64 s ∧ v10 = .float .f64 q ∧ Aside0 (kq = n - i) ∧ i ≤ n ∧ Aside0 (s = sumW W i) ∧ Aside0 (q = natF (cntW W i)) ∧ Aside0 (Kd.R kf 25 w' w.heap.size (fun _ => True) (.slice (some ⟨g, 0, none⟩) n cap) (rowAt W (fun _ => 0) n i)) ∧ Aside0 (Below w.heap.size w w'))
  case atStart => exact ⟨0, 0, 0, rfl, rfl, rfl, ⟨by omega⟩, by omega, ⟨rfl⟩, ⟨natF_zero.symm⟩, ⟨by rw [rowAt_zero]; exact HO1.out⟩, ⟨HB1.out⟩⟩
  case round =>
    obtain ⟨i, s, q, rfl, rfl, rfl, HK, hi, HS, HQ, HO, HB⟩ := hrel
    by_cases hlt : i < n
    · have HWI : Aside0 (W i = worthF (atF l turn (i : Int))) := ⟨by rw [HWD.out]; rfl⟩
      obtain ⟨x, hxx⟩ : ∃ x, W i = x := ⟨_, rfl⟩
      have hxle : x ≤ INF := by rw [← hxx]; exact HW.out i
      have HXE := Aside0.mk hxx
      have hxw : x = worthF (atF l turn (i : Int)) := hxx.symm.trans HWI.out
      have HXW := Aside0.mk hxw
      have hsle : s ≤ INF := by rw [HS.out]; exact sumW_le HW.out i
      have hqc : cntW W i ≤ i := cntW_le W i
      have HADD := Aside0.mk (faddT_ok hsle hxle)
      have hadd := fun w => run_add_ok (HADD.out).1 25 w
      have HS2 : Aside0 (faddT s x = sumW W (i + 1)) := ⟨by rw [HS.out, ← hxx]; rfl⟩
      obtain ⟨s2, hs2⟩ : ∃ s2, faddT s x = s2 := ⟨_, rfl⟩
      rw [hs2] at hadd HS2
      have HSET := Aside0.mk (own_f_set HO.out i x)
      have hfz := own_f_frozen HO.out i
      have hc0 := own_f_cell HO.out i (by omega)
      clear hxx hxw hs2 HWI
      by_cases hbig : x = INF
      · have hgt : (FloatKind.f64.format.order x 9218868437227405311 == some .gt) = true := (gt_max hxle).trans (decide_eq_true hbig)
        have HC2 : Aside0 (cntW W (i + 1) = cntW W i + 1) := ⟨by rw [cntW, if_pos (HXE.out.trans hbig)]⟩
        obtain ⟨m, hm⟩ : ∃ m, cntW W i = m := ⟨_, rfl⟩
        rw [hm] at HC2 hqc
        have HST := Aside0.mk (natF_step (show m < 4096 by omega))
        have HQ1 : Aside0 (q = natF m) := ⟨by rw [HQ.out, hm]⟩
        have hinc : ∀ w, (binOp .add 25 (.float .f64 q) (.float .f64 4607182418800017408)).run Try.prog w = .ok (.float .f64 (natF (m + 1))) w := fun w => run_add_ok (by rw [HQ1.out]; exact HST.out.1) 25 w
        obtain ⟨q2, hq2⟩ : ∃ q2, natF (m + 1) = q2 := ⟨_, rfl⟩
        rw [hq2] at hinc
        have HQ2 : Aside0 (q2 = natF (cntW W (i + 1))) := ⟨by rw [HC2.out, hq2]⟩
        clear hm hq2 hbig hxle hsle HQ
        go_wp2_with (first
          | (go_at_call 48; refine (at_calls A c l turn (i : Int) _ (Kd.C_below HR.out HB.out) HC.out HL.out HT.out (by omega)).mono ?_; rintro e w' ⟨rfl, ⟨nd1, rfl⟩⟩)
          | (go_at_call 47; refine (worth_calls' _ (atF_lt HX.out _ _) _).mono ?_; rintro e w' ⟨rfl, ⟨nd2, rfl⟩⟩; rw [← HXW.out])
          | ((with_reducible refine gate_store (t := 25) (p := 38) rfl ?_); refine store_event (t := 25) (p := 38) (v := ?vo) (w1 := ((wr.drewN (nd1 + nd2)).setCell ⟨g, i, none⟩ (.float .f64 x))) ?hg ?ho ?hn ?hr ?_; (case ho => rfl); (case hg => rfl); (case hn => rfl); (case hr => first | (go_simp; done) | (go_simp; rfl)); intro w14 hw; have HO2 := Aside0.mk (show Kd.R kf 25 w14 w.heap.size (fun _ => True) (.slice (some ⟨g, 0, none⟩) n cap) (rowAt W (fun _ => 0) n (i + 1)) from by rw [hw, ← rowAt_set, HXE.out]; exact own_f_set (Kd.R_drewN HO.out _) i x); have HB2 := Aside0.mk (show Below w.heap.size w w14 from by rw [hw]; exact below_set (pw_below_drewN HB.out _) HG.out); have hc2 : w14.cell? ⟨g, i, none⟩ = some (.float .f64 x) := (by have h_ := own_f_cell HO2.out i (by omega); rw [rowAt_get _ _ (by omega), if_pos (by omega), HXE.out] at h_; exact h_); clear hw hfz hc0 HO HB))
        go_roundg (n - (i + 1))
        case measure => have := HK.out; omega
        case rel => exact ⟨i + 1, s2, q2, by go_num, rfl, rfl, ⟨rfl⟩, by omega, HS2, HQ2, HO2, HB2⟩
      · have hgt : (FloatKind.f64.format.order x 9218868437227405311 == some .gt) = false := (gt_max hxle).trans (decide_eq_false hbig)
        have HQ2 : Aside0 (q = natF (cntW W (i + 1))) := ⟨by rw [cntW, if_neg (fun h => hbig (HXE.out.symm.trans h))]; exact HQ.out⟩
        clear hbig hxle hsle HQ
        go_wp2_with (first
          | (go_at_call 48; refine (at_calls A c l turn (i : Int) _ (Kd.C_below HR.out HB.out) HC.out HL.out HT.out (by omega)).mono ?_; rintro e w' ⟨rfl, ⟨nd1, rfl⟩⟩)
          | (go_at_call 47; refine (worth_calls' _ (atF_lt HX.out _ _) _).mono ?_; rintro e w' ⟨rfl, ⟨nd2, rfl⟩⟩; rw [← HXW.out])
          | ((with_reducible refine gate_store (t := 25) (p := 38) rfl ?_); refine store_event (t := 25) (p := 38) (v := ?vo) (w1 := ((wr.drewN (nd1 + nd2)).setCell ⟨g, i, none⟩ (.float .f64 x))) ?hg ?ho ?hn ?hr ?_; (case ho => rfl); (case hg => rfl); (case hn => rfl); (case hr => first | (go_simp; done) | (go_simp; rfl)); intro w14 hw; have HO2 := Aside0.mk (show Kd.R kf 25 w14 w.heap.size (fun _ => True) (.slice (some ⟨g, 0, none⟩) n cap) (rowAt W (fun _ => 0) n (i + 1)) from by rw [hw, ← rowAt_set, HXE.out]; exact own_f_set (Kd.R_drewN HO.out _) i x); have HB2 := Aside0.mk (show Below w.heap.size w w14 from by rw [hw]; exact below_set (pw_below_drewN HB.out _) HG.out); have hc2 : w14.cell? ⟨g, i, none⟩ = some (.float .f64 x) := (by have h_ := own_f_cell HO2.out i (by omega); rw [rowAt_get _ _ (by omega), if_pos (by omega), HXE.out] at h_; exact h_); clear hw hfz hc0 HO HB))
        go_roundg (n - (i + 1))
        case measure => have := HK.out; omega
        case rel => exact ⟨i + 1, s2, q, by go_num, rfl, rfl, ⟨rfl⟩, by omega, HS2, HQ2, HO2, HB2⟩
    · obtain rfl : i = n := by omega
      have HO2 : Aside0 (Kd.R kf 25 wr w.heap.size (fun _ => True) (.slice (some ⟨g, 0, none⟩) i cap) (rowAt (shareW W i) W i 0)) := ⟨by rw [← rowAt_next W (fun _ => 0) (shareW W i) i]; exact HO.out⟩
      have HCNT := Aside0.mk (cntW_le W i)
      have hsle : s ≤ INF := by rw [HS.out]; exact sumW_le HW.out i
      have hqle : q ≤ INF := by rw [HQ.out]; exact natF_le (by have := HCNT.out; omega)
      have HSE := Aside0.mk hsle
      have HQE := Aside0.mk hqle
      clear HO hsle hqle hlt
      go_wp2
      go_loopg [55] i (fun kq v55 w' => ∃ j : Nat, v55 = .int .i64 j ∧ Aside0 (kq = i - j) ∧ j ≤ i ∧ Aside0 (Kd.R kf 25 w' w.heap.size (fun _ => True) (.slice (some ⟨g, 0, none⟩) i cap) (rowAt (shareW W i) W i j)) ∧ Aside0 (Below w.heap.size w w'))
      case atStart => exact ⟨0, rfl, ⟨by omega⟩, by omega, HO2, HB⟩
      case round =>
        clear HO2 HB
        obtain ⟨j, rfl, HK2, hj, HO, HB⟩ := hrel
        by_cases hlt : j < i
        · obtain ⟨x, hxx⟩ : ∃ x, W j = x := ⟨_, rfl⟩
          have hxle : x ≤ INF := by rw [← hxx]; exact HW.out j
          have HXE := Aside0.mk hxx
          have hc0 : wr.cell? ⟨g, j, none⟩ = some (.float .f64 x) := by
            have h_ := own_f_cell HO.out j hlt
            rw [rowAt_get _ _ hlt, if_neg (by omega), HXE.out] at h_
            exact h_
          have hfz := own_f_frozen HO.out j
          obtain ⟨y, hy⟩ : ∃ y, shareW W i j = y := ⟨_, rfl⟩
          have HYE := Aside0.mk hy
          have HSET : Aside0 (Kd.R kf 25 (wr.setCell ⟨g, j, none⟩ (.float .f64 y)) w.heap.size (fun _ => True) (.slice (some ⟨g, 0, none⟩) i cap) (rowAt (shareW W i) W i (j + 1))) := ⟨by rw [← rowAt_set, HYE.out]; exact own_f_set HO.out j y⟩
          have HBS : Aside0 (Below w.heap.size w (wr.setCell ⟨g, j, none⟩ (.float .f64 y))) := ⟨below_set HB.out HG.out⟩
          have hcv : ∀ w, (convert 3 25 (.int .i64 (i : Int))).run Try.prog w = .ok (.float .f64 (natF i)) w := fun w => by
            rw [run_convert_int_float w 3 25 .i64 .f64 (i : Int) (by kernel_rfl) Try.underlying25]
            have : (decide ((i : Int) < 0)) = false := decide_eq_false (by omega)
            simp only [floatOfInt, FloatKind.nearest, FloatKind.encode, this, Int.natAbs_natCast]
            rfl
          clear hxx hy
          by_cases hcnt : 0 < cntW W i
          · have hq0 : (FloatKind.f64.format.order q 0 == some .gt) = true := (gt_zero (by have := HQE.out; unfold INF at this; omega)).trans (decide_eq_true ⟨Nat.pos_of_ne_zero (by rw [HQ.out]; exact (natF_pos hcnt (by have := HCNT.out; omega)).2), HQE.out⟩)
            by_cases hbig : x = INF
            · have hgt : (FloatKind.f64.format.order x 9218868437227405311 == some .gt) = true := (gt_max hxle).trans (decide_eq_true hbig)
              have HD : Aside0 (fdivT ONE q = y) := ⟨by rw [← HYE.out, shareW, if_pos hcnt, if_pos (HXE.out.trans hbig), HQ.out]⟩
              have hdv : ∀ w, (binOp .quo 25 (.float .f64 4607182418800017408) (.float .f64 q)).run Try.prog w = .ok (.float .f64 y) w := fun w => run_float_arith w .quo 25 .f64 _ _ _ (by rw [← HD.out]; exact (fdivT_one HQE.out).1)
              clear hbig hxle hcnt
              go_wp2
              go_roundg (i - (j + 1))
              case measure => have := HK2.out; omega
              case rel => exact ⟨j + 1, by go_num, ⟨rfl⟩, by omega, HSET, HBS⟩
            · have hgt : (FloatKind.f64.format.order x 9218868437227405311 == some .gt) = false := (gt_max hxle).trans (decide_eq_false hbig)
              have hy0 : y = 0 := by rw [← HYE.out, shareW, if_pos hcnt, if_neg (fun h => hbig (HXE.out.symm.trans h))]
              subst hy0
              clear hbig hxle hcnt
              go_wp2
              go_roundg (i - (j + 1))
              case measure => have := HK2.out; omega
              case rel => exact ⟨j + 1, by go_num, ⟨rfl⟩, by omega, HSET, HBS⟩
          · have hqz : q = 0 := by rw [HQ.out, show cntW W i = 0 from by omega]; exact natF_zero
            have HNB : Aside0 (x ≠ INF) := ⟨fun h => hcnt (cntW_pos (HXE.out.trans h) i hlt)⟩
            have hq0 : (FloatKind.f64.format.order q 0 == some .gt) = false := by rw [hqz]; decide
            clear hqz
            by_cases hs0 : s = 0
            · have hse : (FloatKind.f64.format.order s 0 == some .eq) = true := (eq_zero HSE.out).trans (decide_eq_true hs0)
              have HD : Aside0 (fdivT ONE (natF i) = y) := ⟨by rw [← HYE.out, shareW, if_neg hcnt, if_pos (HS.out.symm.trans hs0)]⟩
              have hdv : ∀ w, (binOp .quo 25 (.float .f64 4607182418800017408) (.float .f64 (natF i))).run Try.prog w = .ok (.float .f64 y) w := fun w => run_float_arith w .quo 25 .f64 _ _ _ (by rw [← HD.out]; exact (fdivT_one (natF_le hn2)).1)
              clear hs0 hxle hcnt
              go_wp2
              go_roundg (i - (j + 1))
              case measure => have := HK2.out; omega
              case rel => exact ⟨j + 1, by go_num, ⟨rfl⟩, by omega, HSET, HBS⟩
            · have hse : (FloatKind.f64.format.order s 0 == some .eq) = false := (eq_zero HSE.out).trans (decide_eq_false hs0)
              have HD : Aside0 (fdivT x s = y) := ⟨by rw [← HYE.out, shareW, if_neg hcnt, if_neg (fun h => hs0 (HS.out.trans h)), HS.out, HXE.out]⟩
              have hdv : ∀ w, (binOp .quo 25 (.float .f64 x) (.float .f64 s)).run Try.prog w = .ok (.float .f64 y) w := fun w => run_float_arith w .quo 25 .f64 _ _ _ (by rw [← HD.out]; exact (fdivT_fin (by have := HNB.out; omega) HSE.out hs0).1)
              clear hs0 hxle hcnt
              go_wp2
              go_roundg (i - (j + 1))
              case measure => have := HK2.out; omega
              case rel => exact ⟨j + 1, by go_num, ⟨rfl⟩, by omega, HSET, HBS⟩
        · obtain rfl : j = i := by omega
          have HO3 : Aside0 (Kd.R kf 25 wr w.heap.size (fun _ => True) (.slice (some ⟨g, 0, none⟩) j cap) ((List.range j).map (shareW (wOf l turn) j))) := ⟨by rw [← HWD.out, ← rowAt_full (shareW W j) W j]; exact HO.out⟩
          go_wp2
          go_ret2
          exact ⟨_, rfl, HO3.out, HB.out⟩
end Go.Proofs.Ytjppanekddljbaa.H
/- odds.Chance: what the Go code computes. -/
namespace Go.Proofs.Ytjppanekddljbaa.H
open Go.RowKit Go.Proofs.Ytjppanekddljbaa.Pr Go.Proofs.YtjppanekddljbaaW.PrintWords Go.Proofs.YtjppanekddljbaaW.PrintLast Go.Proofs.YtjppanekddljbaaW.PrintMore
open Go.Proofs.Ytjppanekddljbaa.Fl
attribute [local go_sem] run_store_float
def pickOf (log : List S68) (i : Nat) : Nat := (rd_T68 log i).f0.toNat
def pickTook (log : List S68) (i : Nat) : Nat := (rd_T68 log i).f1.toNat
/-- how likely the first picks are; none: a product is no number -/
def chanceTo (l : List Nat) (log : List S68) : Nat → Option Nat
  | 0 => some ONE
  | i + 1 => (chanceTo l log i).bind fun c => Ieee.double.mul c (shareW (wOf l i) (pickOf log i) (pickTook log i))
theorem chanceTo_some {l : List Nat} {log : List S68} : ∀ {n : Nat}, (∃ r, chanceTo l log n = some r) → ∀ i, i ≤ n → ∃ r, chanceTo l log i = some r
  | 0, h, i, hi => by rw [show i = 0 from by omega]; exact h
  | n + 1, h, i, hi => by
    rcases Nat.lt_or_ge n i with h1 | h1
    · rw [show i = n + 1 from by omega]; exact h
    · obtain ⟨r, hr⟩ := h
      obtain ⟨c, hc, _⟩ := Option.bind_eq_some_iff.1 hr
      exact chanceTo_some ⟨c, hc⟩ i h1
theorem goodB_at {log : List S68} (h : goodB log = true) (i : Nat) (hi : i < log.length) : 2 ≤ (rd_T68 log i).f0 ∧ 0 ≤ (rd_T68 log i).f1 ∧ (rd_T68 log i).f1 < (rd_T68 log i).f0 ∧ (rd_T68 log i).f0 ≤ 4096 := by
  unfold goodB BigB at h
  simp only [Bool.and_eq_true, Bool.not_eq_true', List.all_eq_true, List.any_eq_false] at h
  have h1 := h.1 log[i] (List.getElem_mem hi)
  have h2 := h.2 log[i] (List.getElem_mem hi)
  unfold okP at h1
  rw [rd68 log i hi]
  simp at h1 h2
  omega
set_option maxHeartbeats 2000000 in
set_option maxRecDepth 100000 in
theorem chance_bad (A : Option Addr) (c : Nat) (l : List Nat) (B : Option Addr) (d : Nat) (log : List S68) (w : World) (hr : Kd.C k68 w B log.length log) (hc : log.length ≤ d) (hn : log.length ≤ 8796093022208) (hg : goodB log = false) :
    Calls Try.prog 8 #[.slice A l.length c, .slice B log.length d] w fun e w' => e = .returned (.tuple #[.float .f64 0, .int .i64 2]) ∧ Below w.heap.size w w' := by
  have HR := Aside0.mk hr
  have HC := Aside0.mk hc
  have HG : Aside0 (odds_good.f 0 log = some false) := ⟨by rw [odds_good.f, if_pos hn, hg]⟩
  clear hr hc hn hg
  go_enter Try.func8, Try.ntmps8
  go_wp2_with (go_at_call 27; refine (odds_good.calls 0 B d log false _ HR.out HC.out HG.out).mono ?_; rintro e w' ⟨rfl, hb⟩; have HB := Aside0.mk hb; clear hb)
  go_ret2
  exact ⟨rfl, HB.out⟩
set_option maxHeartbeats 4000000 in
set_option maxRecDepth 100000 in
theorem chance_ok (A : Option Addr) (c : Nat) (l : List Nat) (B : Option Addr) (d : Nat) (log : List S68) (r : Nat) (w : World) (hr0 : kf.C w A l.length l) (hc0 : l.length ≤ c) (hl : l.length ≤ 4611686018427387904) (hx : ∀ x ∈ l, x < 18446744073709551616)
    (hr : Kd.C k68 w B log.length log) (hc : log.length ≤ d) (hn : log.length ≤ 8796093022208) (hg : goodB log = true) (hch : chanceTo l log log.length = some r) :
    Calls Try.prog 8 #[.slice A l.length c, .slice B log.length d] w fun e w' => e = .returned (.tuple #[.float .f64 r, .int .i64 0]) ∧ Below w.heap.size w w' := by
  have hu68 := Try.underlying68
  have HR0 := Aside0.mk hr0
  have HC0 := Aside0.mk hc0
  have HL := Aside0.mk hl
  have HX := Aside0.mk hx
  have HR := Aside0.mk hr
  have HC := Aside0.mk hc
  have HN := Aside0.mk hn
  have HGB := Aside0.mk hg
  have HCH := Aside0.mk hch
  have HG : Aside0 (odds_good.f 0 log = some true) := ⟨by rw [odds_good.f, if_pos hn, hg]⟩
  have hmax : log.length ≤ 9223372036854775807 := by omega
  clear hr hc hn hg hch hr0 hc0 hl hx
  go_enter Try.func8, Try.ntmps8
  go_wp2_with (go_at_call 27; refine (odds_good.calls 0 B d log true _ HR.out HC.out HG.out).mono ?_; rintro e w' ⟨rfl, hb⟩; have HB := Aside0.mk hb; clear hb)
  go_loopg [6, 16] log.length (fun kq v6 v16 w' => ∃ (i s : Nat), v16 = .int .i64 i ∧ v6 = .float .f64 s ∧ Aside0 (kq = log.length - i) ∧ i ≤ log.length ∧ Aside0 (chanceTo l log i = some s) ∧ Aside0 (Below w.heap.size w w'))
  case atStart => exact ⟨0, ONE, rfl, rfl, ⟨by omega⟩, by omega, ⟨rfl⟩, ⟨HB.out⟩⟩
  case round =>
    clear HB
    obtain ⟨i, s, rfl, rfl, HK, hi, HS, HB⟩ := hrel
    by_cases hlt : i < log.length
    · obtain ⟨ad, e, hx0, hx1⟩ := at_T68 HR.out (i : Int) (by omega) (by omega)
      cases e
      replace hx0 := (HB.out.cell (World.block_lt_of_cell? w _ hx0)).trans hx0
      replace hx1 := (HB.out.cell (World.block_lt_of_cell? w _ hx1)).trans hx1
      simp only [Int.toNat_natCast] at hx0 hx1
      obtain ⟨p1, p2, p3, p4⟩ := goodB_at HGB.out i hlt
      obtain ⟨s2, hs2⟩ := chanceTo_some ⟨r, HCH.out⟩ (i + 1) (by omega)
      have hm : Ieee.double.mul s (shareW (wOf l i) (pickOf log i) (pickTook log i)) = some s2 := by rw [chanceTo, HS.out] at hs2; exact hs2
      have HM := Aside0.mk hm
      have HS2 := Aside0.mk hs2
      clear hm hs2
      obtain ⟨n, hnn⟩ : ∃ n : Nat, (rd_T68 log i).f0 = (n : Int) := ⟨(rd_T68 log i).f0.toNat, by omega⟩
      obtain ⟨j, hjj⟩ : ∃ j : Nat, (rd_T68 log i).f1 = (j : Int) := ⟨(rd_T68 log i).f1.toNat, by omega⟩
      have HPO : Aside0 (pickOf log i = n) := ⟨by unfold pickOf; rw [hnn]; rfl⟩
      have HPT : Aside0 (pickTook log i = j) := ⟨by unfold pickTook; rw [hjj]; rfl⟩
      rw [hnn] at hx0 p1 p3 p4
      rw [hjj] at hx1 p2 p3
      clear hnn hjj
      have hmul : ∀ w, (binOp .mul 25 (.float .f64 s) (.float .f64 (shareW (wOf l i) n j))).run Try.prog w = .ok (.float .f64 s2) w := fun w => run_float_arith w .mul 25 .f64 _ _ _ (by have h_ := HM.out; rw [HPO.out, HPT.out] at h_; exact h_)
      obtain ⟨y, hy⟩ : ∃ y, shareW (wOf l i) n j = y := ⟨_, rfl⟩
      rw [hy] at hmul
      have HY := Aside0.mk hy
      clear hy
      go_wp2_with (go_at_call 21; refine (shares_ok A c l (i : Int) n _ (Kd.C_alloc (Kd.C_below HR0.out HB.out) _) HC0.out HL.out HX.out (by omega) (by omega) (by omega) (by omega)).mono ?_; rintro e w2 ⟨v0, rfl, ho, hb⟩; obtain ⟨g, cap, e1, hg0, _, _⟩ := Kd.R_form ho (by simp; omega); (simp only [List.length_map, List.length_range] at e1); subst e1; have HB2 := Aside0.mk (below_then (below_alloc HB.out _) (below_alloc HB.out _).size hb); have hc8 : w2.cell? ⟨wr.heap.size, 1, none⟩ = some (.int .i64 j) := (by rw [hb.cell (p := ⟨wr.heap.size, 1, none⟩) (by simp)]; go_simp); have hce : w2.cell? ⟨g, j, none⟩ = some (.float .f64 y) := (by have h_ := own_f_cell ho j (by omega); rw [← HY.out]; simpa [List.getD, show j < n by omega] using h_); clear ho hb hg0)
      go_roundg (log.length - (i + 1))
      case measure => have := HK.out; omega
      case rel => exact ⟨i + 1, s2, by go_num, rfl, ⟨rfl⟩, by omega, HS2, HB2⟩
    · have HE : Aside0 (s = r) := ⟨by have h1 := HS.out; rw [show i = log.length from by omega, HCH.out] at h1; exact (Option.some.inj h1).symm⟩
      go_wp2
      go_ret2
      exact ⟨by rw [← HE.out]; rfl, HB.out⟩
end Go.Proofs.Ytjppanekddljbaa.H
