/- The law's floats and bias.At: what the Go code computes. -/
import Derived.Test.YtjppanekddljbaaH8
namespace Go.Proofs.Ytjppanekddljbaa.H
open Go.RowKit Go.Proofs.Ytjppanekddljbaa.Pr Go.Proofs.YtjppanekddljbaaW.PrintWords Go.Proofs.YtjppanekddljbaaW.PrintLast Go.Proofs.YtjppanekddljbaaW.PrintMore
open Go.Proofs.Ytjppanekddljbaa.Fl
set_option linter.unusedVariables false
set_option linter.unusedSimpArgs false

set_option maxHeartbeats 1000000 in
theorem floats_calls (A : Option Addr) (c : Nat) (l : List Int) (w : World) (hr : Kd.C (Kd.int .u64) w A l.length l) (hc : l.length ≤ c) (hl : l.length ≤ 17592186044416) :
    Calls Try.prog 9 #[.slice A l.length c] w fun e w' => ∃ v0_ : Value, e = .returned v0_ ∧ Kd.R kf 25 w' w.heap.size (fun _ => True) v0_ (l.map Int.toNat) ∧ Below w.heap.size w w' := by
  have HR := Aside0.mk hr
  have HBIG := Aside0.mk hl
  have hmax : l.length ≤ 9223372036854775807 := hr.2.1
  clear hr hl
  have hfb := run_frombits
  go_enter Try.func9, Try.ntmps9
  go_wp2
  go_loopg [3, 7] l.length (fun kq v3 v7 w' => ∃ (i : Nat) (xs : List Nat), v7 = .int .i64 i ∧ Aside0 (kq = l.length - i) ∧ i ≤ l.length ∧ Aside0 (xs = (l.take i).map Int.toNat) ∧ Aside0 (Kd.R kf 25 w' w.heap.size (fun _ => True) v3 xs) ∧ Aside0 (Below w.heap.size w w'))
  case atStart => exact ⟨0, [], rfl, ⟨by omega⟩, by omega, ⟨rfl⟩, ⟨Kd.R_nil _ _ _ _ _⟩, ⟨Below.refl _ _⟩⟩
  case round =>
    obtain ⟨i, xs, rfl, HK, hi, HX, HO, HB⟩ := hrel
    by_cases hlt : i < l.length
    · obtain ⟨ad, e, hx⟩ := Kd.at_int HR.out (i : Int) (by omega) (by omega)
      cases e
      replace hx := (HB.out.cell (World.block_lt_of_cell? w _ hx)).trans hx
      simp only [Int.toNat_natCast] at hx
      obtain ⟨x, hxx⟩ : ∃ x, rd l i = x := ⟨_, rfl⟩
      rw [hxx] at hx
      have HX2 : Aside0 (xs ++ [x.toNat] = (l.take (i + 1)).map Int.toNat) := ⟨by
        rw [HX.out, List.take_succ_eq_append_getElem hlt, List.map_append, ← hxx]
        simp [rd, List.getD, hlt]⟩
      have HXL : Aside0 (xs.length = i) := ⟨by rw [HX.out]; simp; omega⟩
      clear hxx HX
      go_wp2_with (first
        | ((with_reducible refine gate_builtin (b := .append) (xs := #[.tmp 10, .tmp 16]) rfl ?_); at_builtin; refine Kd.R_append kf (w0 := w) w.heap.size rfl (.tmp 10) (.tmp 16) 29 25 (.float .f64 0) 8 rfl Try.underlying29 info25 rfl (by decide) (by omega) u3 xs x.toNat [.float .f64 x.toNat] (fun _ => True) (fun _ => False) rfl rfl ?aP (fun _ hk => hk.elim) ?aF ?aO ?aB ?aS ?aL ?_; (case aP => exact rfl); (case aB => exact (by repeat (first | (with_reducible first | exact HB.out | apply below_alloc | apply pw_below_drewN | apply below_drew1) | exact HB.out))); (case aF => exact (fun _ _ => trivial)); (case aO => exact (by (with_reducible repeat (first | apply Kd.R_alloc | apply Kd.R_drewN | apply Kd.R_drew)); exact HO.out)); (case aS => exact (below_size (by repeat (first | (with_reducible first | exact HB.out | apply below_alloc | apply pw_below_drewN | apply below_drew1) | exact HB.out)))); (case aL => have := HBIG.out; have := HXL.out; omega); intro v1 w1 ho hb hg hat; have HO1 := Aside0.mk ho; have HB1 := Aside0.mk hb; clear ho hb hg hat HB HO))
      go_roundg (l.length - (i + 1))
      case measure => have := HK.out; omega
      case rel => exact ⟨i + 1, xs ++ [x.toNat], by go_num, ⟨rfl⟩, by omega, HX2, HO1, HB1⟩
    · have HT : Aside0 (xs = l.map Int.toNat) := ⟨by rw [HX.out, List.take_of_length_le (by omega)]⟩
      go_wp2
      go_ret
      exact ⟨_, rfl, by rw [← HT.out]; exact HO.out, HB.out⟩

/-- NaN made one. -/
def oneF (b : Nat) : Nat := if isNaN b = true then 9221120237041090561 else b
def atF (ws : List Nat) (turn i : Int) : Nat :=
  if ws.length = 0 ∨ turn < 0 ∨ i < 0 then 0 else oneF (ws.getD ((turn % ws.length + i % ws.length) % ws.length).toNat 0)
set_option maxHeartbeats 1000000 in
theorem at_calls (A : Option Addr) (c : Nat) (l : List Nat) (turn i : Int) (w : World) (hr : kf.C w A l.length l) (hc : l.length ≤ c) (hl : l.length ≤ 4611686018427387904) (ht : turn ≤ 9223372036854775807) (hi : i ≤ 9223372036854775807) :
    Calls Try.prog 48 #[.slice A l.length c, .int .i64 turn, .int .i64 i] w fun e w' => e = .returned (.float .f64 (atF l turn i)) ∧ Drawn0 w w' := by
  have HR := Aside0.mk hr
  clear hr
  by_cases h0 : l.length = 0
  · have h0b : ((l.length : Int) == 0) = true := beq_iff_eq.mpr (by omega)
    have HE : Aside0 (atF l turn i = 0) := ⟨by rw [atF, if_pos (.inl h0)]⟩
    clear h0
    go_enter Try.func48, Try.ntmps48
    go_wp2
    go_ret
    exact ⟨by rw [HE.out]; rfl, Drawn0.refl _⟩
  · have h0b : ((l.length : Int) == 0) = false := beq_eq_false_iff_ne.mpr (by omega)
    by_cases h1 : turn < 0
    · have HE : Aside0 (atF l turn i = 0) := ⟨by rw [atF, if_pos (.inr (.inl h1))]⟩
      have h1b : decide (turn < 0) = true := decide_eq_true h1
      clear h0 h1
      go_enter Try.func48, Try.ntmps48
      go_wp2
      go_ret
      exact ⟨by rw [HE.out]; rfl, Drawn0.refl _⟩
    · have h1b : decide (turn < 0) = false := decide_eq_false h1
      by_cases h2 : i < 0
      · have HE : Aside0 (atF l turn i = 0) := ⟨by rw [atF, if_pos (.inr (.inr h2))]⟩
        have h2b : decide (i < 0) = true := decide_eq_true h2
        clear h0 h1 h2
        go_enter Try.func48, Try.ntmps48
        go_wp2
        go_ret
        exact ⟨by rw [HE.out]; rfl, Drawn0.refl _⟩
      · have h2b : decide (i < 0) = false := decide_eq_false h2
        obtain ⟨j, hj⟩ : ∃ j : Int, (turn % l.length + i % l.length) % l.length = j := ⟨_, rfl⟩
        have hj0 : 0 ≤ j := by rw [← hj]; exact Int.emod_nonneg _ (by omega)
        have hj1 : j < l.length := by rw [← hj]; exact Int.emod_lt_of_pos _ (by omega)
        obtain ⟨ad, e, hx⟩ := at_f HR.out j hj0 hj1
        cases e
        obtain ⟨x, hxx⟩ : ∃ x, l.getD j.toNat 0 = x := ⟨_, rfl⟩
        rw [hxx] at hx
        have HE : Aside0 (atF l turn i = oneF x) := ⟨by rw [atF, if_neg (by omega), hj, hxx]⟩
        have hm1 : 0 ≤ turn % (l.length : Int) := Int.emod_nonneg _ (by omega)
        have hm2 : turn % (l.length : Int) < l.length := Int.emod_lt_of_pos _ (by omega)
        have hm3 : 0 ≤ i % (l.length : Int) := Int.emod_nonneg _ (by omega)
        have hm4 : i % (l.length : Int) < l.length := Int.emod_lt_of_pos _ (by omega)
        have hn0 : (1 : Int) ≤ l.length := by omega
        clear hxx
        by_cases hn : isNaN x = true
        · have hord : (FloatKind.f64.format.order x x != some .eq) = true := by
            show (Ieee.double.order x x != some .eq) = true
            rw [order_nan_left hn]; decide
          have HN : Aside0 (oneF x = 9221120237041090561) := ⟨if_pos hn⟩
          clear hn
          go_enter Try.func48, Try.ntmps48
          go_wp2
          go_quiet (fail)
          go_wp2_with (go_at_call 25; refine (nan_calls _).mono ?_; rintro e w' ⟨rfl, ⟨nd, rfl⟩⟩)
          go_ret
          exact ⟨by rw [HE.out, HN.out]; rfl, by repeat (first | exact Drawn0.refl _ | apply Drawn0.step)⟩
        · replace hn : isNaN x = false := Bool.eq_false_iff.mpr hn
          have hord : (FloatKind.f64.format.order x x != some .eq) = false := by
            show (Ieee.double.order x x != some .eq) = false
            rw [order_self hn]; decide
          have HN : Aside0 (oneF x = x) := ⟨if_neg (by rw [hn]; decide)⟩
          clear hn
          go_enter Try.func48, Try.ntmps48
          go_wp2
          go_quiet (fail)
          go_wp2
          go_ret
          exact ⟨by rw [HE.out, HN.out]; rfl, by repeat (first | exact Drawn0.refl _ | apply Drawn0.step)⟩
end Go.Proofs.Ytjppanekddljbaa.H
