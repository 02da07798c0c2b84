/- OddsTotals returns true whatever the input, and the input reads as it did. Conditions: none but those of the given row (part 4) -/
import Derived.DataShut
import Derived.SizedLaws
import Derived.ChangeSlices
import Derived.Test.YtjppanekddljbaaRows
import Derived.WalkKit
import Derived.ProofKit
import Derived.OpenShut
import Derived.ShutString
import Derived.ChangeOld
import Derived.Below
import Derived.Test.YtjppanekddljbaaT3
set_option linter.unusedVariables false
set_option linter.unusedSimpArgs false
/- The reference's Add and Total, of any floats. -/
namespace Go.Proofs.Ytjppanekddljbaa.Lb
open Go.RowKit Go.Proofs.Ytjppanekddljbaa.Pr Go.Proofs.YtjppanekddljbaaW.PrintWords Go.Proofs.YtjppanekddljbaaW.PrintLast Go.Proofs.YtjppanekddljbaaW.PrintMore
open Go.Proofs.Ytjppanekddljbaa.Fl Ieee Go.Proofs.Ytjppanekddljbaa.H
theorem add_nan_right {x y : Nat} (h : isNaN y = true) : double.add x y = none := by
  unfold isNaN at h
  simp only [decide_eq_true_eq] at h
  unfold Format.add
  rw [read_nan y h]
  cases double.read x <;> rfl
theorem size_ev (x : Nat) : sibylref03_Size.f (x : Int) = some ((rung x : Nat) : Int) := by unfold sibylref03_Size.f; rw [tmod63]; rfl
theorem word_inf {x : Nat} (hx : x < 18446744073709551616) (h : rung x = 9218868437227405312) : double.write (.infinity (sgB x)) = x := by
  rw [show double.write (.infinity (sgB x)) = double.word (sgB x) double.infRung from rfl, dinf]
  have := word_eq hx
  rw [h] at this
  rw [this]
  have e : sgB (signedW (sgB x) 9218868437227405312) = sgB x := by rw [← this]
  rw [e]
  simp only [Format.word, dsw, signedW]
theorem read_infw {x : Nat} (hx : x < 18446744073709551616) (h : rung x = 9218868437227405312) : double.read x = .infinity (sgB x) := by
  rw [read_inf x h, sgB_div hx]
theorem add_ev {x y : Nat} (hx : x < 18446744073709551616) (hy : y < 18446744073709551616) : Ev (fun k => sibylref21_Add.f k (x : Int) (y : Int)) ((addC x y : Nat) : Int) := by
  have hj0 : ∀ t : Bool, t = true → Ev (fun k => sibylref21_Add.j0 k (x : Int) (y : Int) t) 9221120237041090561 := fun t ht => by
    refine Ev.step (f := fun _ => some 9221120237041090561) (fun k => ?_) (Ev.now _)
    simp only [sibylref21_Add.j0]
    exact if_pos ht
  by_cases nx : isNaN x = true
  · have : addC x y = 9221120237041090561 := by unfold addC; rw [add_nan_left nx]; rfl
    rw [this]
    refine Ev.congr (f := fun k => sibylref21_Add.j0 k (x : Int) (y : Int) true) (fun k => ?_) (hj0 true rfl)
    unfold sibylref21_Add.f
    rw [isNaN_ev, nx]
    rfl
  · replace nx := Bool.eq_false_iff.mpr nx
    refine Ev.congr (f := fun k => sibylref21_Add.j0 k (x : Int) (y : Int) (isNaN y)) (fun k => ?_) ?_
    · unfold sibylref21_Add.f
      rw [isNaN_ev, isNaN_ev, nx]
      rfl
    · by_cases ny : isNaN y = true
      · have : addC x y = 9221120237041090561 := by unfold addC; rw [add_nan_right ny]; rfl
        rw [this]
        exact hj0 _ ny
      · replace ny := Bool.eq_false_iff.mpr ny
        rw [ny]
        have rx : rung x ≤ 9218868437227405312 := by unfold isNaN at nx; have := of_decide_eq_false nx; unfold rung; omega
        have ry : rung y ≤ 9218868437227405312 := by unfold isNaN at ny; have := of_decide_eq_false ny; unfold rung; omega
        have j0eq : ∀ k, sibylref21_Add.j0 (k + 1) (x : Int) (y : Int) false = if ((rung x : Nat) : Int) = 9218868437227405312 then (if ((rung y : Nat) : Int) = 9218868437227405312 then sibylref21_Add.j1 k (x : Int) (y : Int) (((rung x : Nat) : Int) == 9218868437227405312) (((rung y : Nat) : Int) == 9218868437227405312) ((x : Int) != (y : Int)) else sibylref21_Add.j1 k (x : Int) (y : Int) (((rung x : Nat) : Int) == 9218868437227405312) (((rung y : Nat) : Int) == 9218868437227405312) false) else sibylref21_Add.j1 k (x : Int) (y : Int) (((rung x : Nat) : Int) == 9218868437227405312) (((rung y : Nat) : Int) == 9218868437227405312) false := fun k => by
          simp only [sibylref21_Add.j0]
          rw [if_neg (by decide), size_ev, size_ev]
          rfl
        by_cases ix : rung x = 9218868437227405312
        · have bx : (((rung x : Nat) : Int) == 9218868437227405312) = true := beq_iff_eq.mpr (by omega)
          by_cases iy : rung y = 9218868437227405312
          · have by_ : (((rung y : Nat) : Int) == 9218868437227405312) = true := beq_iff_eq.mpr (by omega)
            have hadd : double.add x y = if sgB x = sgB y then some x else none := by
              unfold Format.add
              rw [read_infw hx ix, read_infw hy iy]
              simp only [Datum.sum]
              split
              · rw [Option.map_some, word_inf hx ix]
              · rfl
            by_cases hs : sgB x = sgB y
            · have hxy : x = y := by rw [word_eq hx, word_eq hy, hs, ix, iy]
              have : addC x y = x := by unfold addC; rw [hadd, if_pos hs]; rfl
              rw [this]
              refine Ev.step2 (f := fun _ => some (x : Int)) (fun k => ?_) (Ev.now _)
              rw [j0eq, if_pos (by omega), if_pos (by omega), bx, by_, show ((x : Int) != (y : Int)) = false from by rw [hxy]; simp]
              simp only [sibylref21_Add.j1]
              rw [if_neg (by decide), if_pos trivial]
            · have hne : ((x : Int) != (y : Int)) = true := by
                rw [bne_iff_ne]
                intro h
                exact hs (by rw [show x = y by omega])
              have : addC x y = 9221120237041090561 := by unfold addC; rw [hadd, if_neg hs]; rfl
              rw [this]
              refine Ev.step2 (f := fun _ => some 9221120237041090561) (fun k => ?_) (Ev.now _)
              rw [j0eq, if_pos (by omega), if_pos (by omega), hne]
              simp only [sibylref21_Add.j1]
              rw [if_pos trivial]
          · have hadd : double.add x y = some x := by
              unfold Format.add
              rw [read_infw hx ix, read_word hy (by omega)]
              simp only [Datum.sum]
              rw [Option.map_some, word_inf hx ix]
            have : addC x y = x := by unfold addC; rw [hadd]; rfl
            rw [this]
            refine Ev.step2 (f := fun _ => some (x : Int)) (fun k => ?_) (Ev.now _)
            rw [j0eq, if_pos (by omega), if_neg (by omega), bx]
            simp only [sibylref21_Add.j1]
            rw [if_neg (by decide), if_pos trivial]
        · have bx : (((rung x : Nat) : Int) == 9218868437227405312) = false := beq_eq_false_iff_ne.mpr (by omega)
          by_cases iy : rung y = 9218868437227405312
          · have by_ : (((rung y : Nat) : Int) == 9218868437227405312) = true := beq_iff_eq.mpr (by omega)
            have hadd : double.add x y = some y := by
              unfold Format.add
              rw [read_word hx (by omega), read_infw hy iy]
              simp only [Datum.sum]
              rw [Option.map_some, word_inf hy iy]
            have : addC x y = y := by unfold addC; rw [hadd]; rfl
            rw [this]
            refine Ev.step2 (f := fun _ => some (y : Int)) (fun k => ?_) (Ev.now _)
            rw [j0eq, if_neg (by omega), bx, by_]
            simp only [sibylref21_Add.j1]
            rw [if_neg (by decide), if_neg (by decide), if_pos trivial]
          · have by_ : (((rung y : Nat) : Int) == 9218868437227405312) = false := beq_eq_false_iff_ne.mpr (by omega)
            refine Ev.step (f := fun k => sibylref21_Add.j1 k (x : Int) (y : Int) false false false) (fun k => ?_) (add_fin_ev hx hy (by omega) (by omega))
            rw [j0eq, if_neg (by omega), bx, by_]
theorem add_lt64 {x y r : Nat} (h : double.add x y = some r) : r < 18446744073709551616 := by
  unfold Format.add at h
  obtain ⟨d, hd, rfl⟩ := Option.map_eq_some_iff.1 h
  have hn := sum_not_nan hd
  cases d with
  | number s m e =>
    obtain ⟨r, hr, he⟩ := nearest_rung s m e
    rw [show double.write (.number s m e) = double.nearest s m e from rfl, he]
    split <;> omega
  | infinity s =>
    rw [show double.write (.infinity s) = double.word s double.infRung from rfl, dinf]
    simp only [Format.word, dsw]
    split <;> omega
  | nan => simp [Datum.isNaN] at hn
/-- the sum as the reference keeps it -/
def sumC (l : List Nat) : Nat := (sumF l).getD 9221120237041090561
theorem sumF_lt {l : List Nat} {a : Nat} (h : sumF l = some a) : a < 18446744073709551616 := by
  rcases List.eq_nil_or_concat l with rfl | ⟨l', x, rfl⟩
  · obtain rfl := Option.some.inj h; decide
  · rw [List.concat_eq_append, sumF_snoc] at h
    obtain ⟨b, _, hb⟩ := Option.bind_eq_some_iff.1 h
    exact add_lt64 hb
theorem sumC_lt (l : List Nat) : sumC l < 18446744073709551616 := by
  unfold sumC
  cases h : sumF l with
  | none => decide
  | some a => exact sumF_lt h
theorem sumC_snoc (l : List Nat) (x : Nat) : sumC (l ++ [x]) = addC (sumC l) x := by
  unfold sumC addC
  rw [sumF_snoc]
  cases sumF l with
  | none => rw [Option.bind_none, add_nan_left (x := Option.getD none 9221120237041090561) (by decide)]
  | some a => rfl
theorem total_loop {l : List Nat} (hl : ∀ x ∈ l, x < 18446744073709551616) (hlen : l.length ≤ 17592186044416) (d : Nat) : ∀ i, i ≤ l.length → l.length - i = d →
    Ev (fun k => sibylref21_Total.l0 k (U l) ((sumC (l.take i) : Nat) : Int) (i : Int)) ((sumC l : Nat) : Int) := by
  induction d with
  | zero =>
    intro i hi hd
    rw [List.take_of_length_le (by omega)]
    refine Ev.step (f := fun _ => some ((sumC l : Nat) : Int)) (fun k => ?_) (Ev.now _)
    simp only [sibylref21_Total.l0, U_length]
    rw [if_neg (by omega)]
  | succ d ih =>
    intro i hi hd
    have hlt : i < l.length := by omega
    have hw : wrap64 ((i : Int) + 1) = ((i + 1 : Nat) : Int) := by unfold wrap64; omega
    have hx : l.getD i 0 < 18446744073709551616 := by rw [List.getD, List.getElem?_eq_getElem hlt]; exact hl _ (List.getElem_mem hlt)
    have hs : sumC (l.take (i + 1)) = addC (sumC (l.take i)) (l.getD i 0) := by
      rw [List.take_succ_eq_append_getElem hlt, sumC_snoc, List.getD, List.getElem?_eq_getElem hlt]; rfl
    refine Ev.step (f := fun k => (sibylref21_Add.f k ((sumC (l.take i) : Nat) : Int) ((l.getD i 0 : Nat) : Int)).bind fun t => sibylref21_Total.l0 k (U l) t ((i + 1 : Nat) : Int)) (fun k => ?_) ?_
    · simp only [sibylref21_Total.l0, U_length]
      rw [if_pos (by omega), if_pos (by omega), rd_U, hw]
    · refine Ev.bind (add_ev (sumC_lt _) hx) ?_
      rw [← hs]
      exact ih (i + 1) (by omega) (by omega)
theorem total_ev {l : List Nat} (hl : ∀ x ∈ l, x < 18446744073709551616) (hlen : l.length ≤ 17592186044416) : Ev (fun k => sibylref21_Total.f k (U l)) ((sumC l : Nat) : Int) := by
  have := total_loop hl hlen l.length 0 (by omega) (by omega)
  exact this
end Go.Proofs.Ytjppanekddljbaa.Lb
/- The law's floats and bias.At: what the Go code computes. -/
namespace Go.Proofs.Ytjppanekddljbaa.H
open Go.RowKit Go.Proofs.Ytjppanekddljbaa.Pr Go.Proofs.YtjppanekddljbaaW.PrintWords Go.Proofs.YtjppanekddljbaaW.PrintLast Go.Proofs.YtjppanekddljbaaW.PrintMore
open Go.Proofs.Ytjppanekddljbaa.Fl
set_option maxHeartbeats 1000000 in
theorem floats_calls (A : Option Addr) (c : Nat) (l : List Int) (w : World) (hr : Kd.C (Kd.int .u64) w A l.length l) (hc : l.length ≤ c) (hl : l.length ≤ 17592186044416) :
    Calls Try.prog 9 #[.slice A l.length c] w fun e w' => ∃ v0_ : Value, e = .returned v0_ ∧ Kd.R kf 25 w' w.heap.size (fun _ => True) v0_ (l.map Int.toNat) ∧ Below w.heap.size w w' := by
  have HR := Aside0.mk hr
  have HBIG := Aside0.mk hl
  have hmax : l.length ≤ 9223372036854775807 := hr.2.1
  clear hr hl
  have hfb := run_frombits
  go_enter Try.func9, Try.ntmps9
  go_wp2
  go_loopg [3, 7] l.length (fun kq v3 v7 w' => ∃ (i : Nat) (xs : List Nat), v7 = .int .i64 i ∧ Aside0 (kq = l.length - i) ∧ i ≤ l.length ∧ Aside0 (xs = (l.take i).map Int.toNat) ∧ Aside0 (Kd.R kf 25 w' w.heap.size (fun _ => True) v3 xs) ∧ Aside0 (Below w.heap.size w w'))
  case atStart => exact ⟨0, [], rfl, ⟨by omega⟩, by omega, ⟨rfl⟩, ⟨Kd.R_nil _ _ _ _ _⟩, ⟨Below.refl _ _⟩⟩
  case round =>
    obtain ⟨i, xs, rfl, HK, hi, HX, HO, HB⟩ := hrel
    by_cases hlt : i < l.length
    · obtain ⟨ad, e, hx⟩ := Kd.at_int HR.out (i : Int) (by omega) (by omega)
      cases e
      replace hx := (HB.out.cell (World.block_lt_of_cell? w _ hx)).trans hx
      simp only [Int.toNat_natCast] at hx
      obtain ⟨x, hxx⟩ : ∃ x, rd l i = x := ⟨_, rfl⟩
      rw [hxx] at hx
      have HX2 : Aside0 (xs ++ [x.toNat] = (l.take (i + 1)).map Int.toNat) := ⟨by
        rw [HX.out, List.take_succ_eq_append_getElem hlt, List.map_append, ← hxx]
        simp [rd, List.getD, hlt]⟩
      have HXL : Aside0 (xs.length = i) := ⟨by rw [HX.out]; simp; omega⟩
      clear hxx HX
      go_wp2_with (first
        | ((with_reducible refine gate_builtin (b := .append) (xs := #[.tmp 10, .tmp 16]) rfl ?_); at_builtin; refine Kd.R_append kf (w0 := w) w.heap.size rfl (.tmp 10) (.tmp 16) 29 25 (.float .f64 0) 8 rfl Try.underlying29 info25 rfl (by decide) (by omega) u3 xs x.toNat [.float .f64 x.toNat] (fun _ => True) (fun _ => False) rfl rfl ?aP (fun _ hk => hk.elim) ?aF ?aO ?aB ?aS ?aL ?_; (case aP => exact rfl); (case aB => exact (by repeat (first | (with_reducible first | exact HB.out | apply below_alloc | apply pw_below_drewN | apply below_drew1) | exact HB.out))); (case aF => exact (fun _ _ => trivial)); (case aO => exact (by (with_reducible repeat (first | apply Kd.R_alloc | apply Kd.R_drewN | apply Kd.R_drew)); exact HO.out)); (case aS => exact (below_size (by repeat (first | (with_reducible first | exact HB.out | apply below_alloc | apply pw_below_drewN | apply below_drew1) | exact HB.out)))); (case aL => have := HBIG.out; have := HXL.out; omega); intro v1 w1 ho hb hg hat; have HO1 := Aside0.mk ho; have HB1 := Aside0.mk hb; clear ho hb hg hat HB HO))
      go_roundg (l.length - (i + 1))
      case measure => have := HK.out; omega
      case rel => exact ⟨i + 1, xs ++ [x.toNat], by go_num, ⟨rfl⟩, by omega, HX2, HO1, HB1⟩
    · have HT : Aside0 (xs = l.map Int.toNat) := ⟨by rw [HX.out, List.take_of_length_le (by omega)]⟩
      go_wp2
      go_ret
      exact ⟨_, rfl, by rw [← HT.out]; exact HO.out, HB.out⟩
/-- NaN made one. -/
def oneF (b : Nat) : Nat := if isNaN b = true then 9221120237041090561 else b
def atF (ws : List Nat) (turn i : Int) : Nat :=
  if ws.length = 0 ∨ turn < 0 ∨ i < 0 then 0 else oneF (ws.getD ((turn % ws.length + i % ws.length) % ws.length).toNat 0)
set_option maxHeartbeats 1000000 in
theorem at_calls (A : Option Addr) (c : Nat) (l : List Nat) (turn i : Int) (w : World) (hr : kf.C w A l.length l) (hc : l.length ≤ c) (hl : l.length ≤ 4611686018427387904) (ht : turn ≤ 9223372036854775807) (hi : i ≤ 9223372036854775807) :
    Calls Try.prog 48 #[.slice A l.length c, .int .i64 turn, .int .i64 i] w fun e w' => e = .returned (.float .f64 (atF l turn i)) ∧ Drawn0 w w' := by
  have HR := Aside0.mk hr
  clear hr
  by_cases h0 : l.length = 0
  · have h0b : ((l.length : Int) == 0) = true := beq_iff_eq.mpr (by omega)
    have HE : Aside0 (atF l turn i = 0) := ⟨by rw [atF, if_pos (.inl h0)]⟩
    clear h0
    go_enter Try.func48, Try.ntmps48
    go_wp2
    go_ret
    exact ⟨by rw [HE.out]; rfl, Drawn0.refl _⟩
  · have h0b : ((l.length : Int) == 0) = false := beq_eq_false_iff_ne.mpr (by omega)
    by_cases h1 : turn < 0
    · have HE : Aside0 (atF l turn i = 0) := ⟨by rw [atF, if_pos (.inr (.inl h1))]⟩
      have h1b : decide (turn < 0) = true := decide_eq_true h1
      clear h0 h1
      go_enter Try.func48, Try.ntmps48
      go_wp2
      go_ret
      exact ⟨by rw [HE.out]; rfl, Drawn0.refl _⟩
    · have h1b : decide (turn < 0) = false := decide_eq_false h1
      by_cases h2 : i < 0
      · have HE : Aside0 (atF l turn i = 0) := ⟨by rw [atF, if_pos (.inr (.inr h2))]⟩
        have h2b : decide (i < 0) = true := decide_eq_true h2
        clear h0 h1 h2
        go_enter Try.func48, Try.ntmps48
        go_wp2
        go_ret
        exact ⟨by rw [HE.out]; rfl, Drawn0.refl _⟩
      · have h2b : decide (i < 0) = false := decide_eq_false h2
        obtain ⟨j, hj⟩ : ∃ j : Int, (turn % l.length + i % l.length) % l.length = j := ⟨_, rfl⟩
        have hj0 : 0 ≤ j := by rw [← hj]; exact Int.emod_nonneg _ (by omega)
        have hj1 : j < l.length := by rw [← hj]; exact Int.emod_lt_of_pos _ (by omega)
        obtain ⟨ad, e, hx⟩ := at_f HR.out j hj0 hj1
        cases e
        obtain ⟨x, hxx⟩ : ∃ x, l.getD j.toNat 0 = x := ⟨_, rfl⟩
        rw [hxx] at hx
        have HE : Aside0 (atF l turn i = oneF x) := ⟨by rw [atF, if_neg (by omega), hj, hxx]⟩
        have hm1 : 0 ≤ turn % (l.length : Int) := Int.emod_nonneg _ (by omega)
        have hm2 : turn % (l.length : Int) < l.length := Int.emod_lt_of_pos _ (by omega)
        have hm3 : 0 ≤ i % (l.length : Int) := Int.emod_nonneg _ (by omega)
        have hm4 : i % (l.length : Int) < l.length := Int.emod_lt_of_pos _ (by omega)
        have hn0 : (1 : Int) ≤ l.length := by omega
        clear hxx
        by_cases hn : isNaN x = true
        · have hord : (FloatKind.f64.format.order x x != some .eq) = true := by
            show (Ieee.double.order x x != some .eq) = true
            rw [order_nan_left hn]; decide
          have HN : Aside0 (oneF x = 9221120237041090561) := ⟨if_pos hn⟩
          clear hn
          go_enter Try.func48, Try.ntmps48
          go_wp2
          go_quiet (fail)
          go_wp2_with (go_at_call 25; refine (nan_calls _).mono ?_; rintro e w' ⟨rfl, ⟨nd, rfl⟩⟩)
          go_ret
          exact ⟨by rw [HE.out, HN.out]; rfl, by repeat (first | exact Drawn0.refl _ | apply Drawn0.step)⟩
        · replace hn : isNaN x = false := Bool.eq_false_iff.mpr hn
          have hord : (FloatKind.f64.format.order x x != some .eq) = false := by
            show (Ieee.double.order x x != some .eq) = false
            rw [order_self hn]; decide
          have HN : Aside0 (oneF x = x) := ⟨if_neg (by rw [hn]; decide)⟩
          clear hn
          go_enter Try.func48, Try.ntmps48
          go_wp2
          go_quiet (fail)
          go_wp2
          go_ret
          exact ⟨by rw [HE.out, HN.out]; rfl, by repeat (first | exact Drawn0.refl _ | apply Drawn0.step)⟩
end Go.Proofs.Ytjppanekddljbaa.H
/- Shares of weights, plain: what odds.Shares reckons, float by float. -/
namespace Go.Proofs.Ytjppanekddljbaa.Fl
open Ieee
def faddT (x y : Nat) : Nat := (double.add x y).getD 0
def fdivT (x y : Nat) : Nat := (double.div x y).getD 0
theorem faddT_ok {x y : Nat} (hx : x ≤ INF) (hy : y ≤ INF) : double.add x y = some (faddT x y) ∧ faddT x y ≤ INF := by
  obtain ⟨r, h, hr⟩ := add_pos hx hy
  simp [faddT, h, hr]
theorem fdivT_one {y : Nat} (hy : y ≤ INF) : double.div ONE y = some (fdivT ONE y) ∧ fdivT ONE y ≤ INF := by
  obtain ⟨r, h, hr⟩ := div_one hy
  simp [fdivT, h, hr]
theorem fdivT_fin {x y : Nat} (hx : x < INF) (hy : y ≤ INF) (h0 : y ≠ 0) : double.div x y = some (fdivT x y) ∧ fdivT x y ≤ INF := by
  obtain ⟨r, h, hr⟩ := div_fin hx hy h0
  simp [fdivT, h, hr]
/-- whole numbers as floats -/
def natF (n : Nat) : Nat := double.nearest false n 0
def stepB (n : Nat) : Bool := decide (double.add (natF n) ONE = some (natF (n + 1)) ∧ natF (n + 1) ≤ INF ∧ natF (n + 1) ≠ 0)
def stepsB : Nat → Nat → Bool
  | 0, lo => stepB lo
  | k + 1, lo => stepsB k lo && stepsB k (lo + 2 ^ k)
theorem steps_at : ∀ k lo, stepsB k lo = true → ∀ n, lo ≤ n → n < lo + 2 ^ k → stepB n = true
  | 0, lo, h, n, h1, h2 => by
    rw [show n = lo from by omega]; exact h
  | k + 1, lo, h, n, h1, h2 => by
    simp only [stepsB, Bool.and_eq_true] at h
    rw [Nat.pow_succ] at h2
    rcases Nat.lt_or_ge n (lo + 2 ^ k) with h3 | h3
    · exact steps_at k lo h.1 n h1 h3
    · exact steps_at k (lo + 2 ^ k) h.2 n h3 (by omega)
theorem steps_all : stepsB 12 0 = true := by decide +kernel
theorem natF_step {n : Nat} (h : n < 4096) : double.add (natF n) ONE = some (natF (n + 1)) ∧ natF (n + 1) ≤ INF ∧ natF (n + 1) ≠ 0 := by
  have := steps_at 12 0 steps_all n (Nat.zero_le _) (by omega)
  unfold stepB at this
  exact of_decide_eq_true this
theorem natF_zero : natF 0 = 0 := by decide
theorem natF_pos {n : Nat} (h0 : 0 < n) (h : n ≤ 4096) : natF n ≤ INF ∧ natF n ≠ 0 := by
  obtain ⟨m, rfl⟩ : ∃ m, n = m + 1 := ⟨n - 1, by omega⟩
  exact (natF_step (by omega)).2
theorem natF_le {n : Nat} (h : n ≤ 4096) : natF n ≤ INF := by
  rcases Nat.eq_zero_or_pos n with rfl | h0
  · decide
  · exact (natF_pos h0 h).1
/-- the weights' sum, and how many are infinite -/
def sumW (w : Nat → Nat) : Nat → Nat
  | 0 => 0
  | n + 1 => faddT (sumW w n) (w n)
def cntW (w : Nat → Nat) : Nat → Nat
  | 0 => 0
  | n + 1 => if w n = INF then cntW w n + 1 else cntW w n
theorem sumW_le {w : Nat → Nat} (hw : ∀ i, w i ≤ INF) : ∀ n, sumW w n ≤ INF
  | 0 => Nat.zero_le _
  | n + 1 => (faddT_ok (sumW_le hw n) (hw n)).2
theorem cntW_le (w : Nat → Nat) : ∀ n, cntW w n ≤ n
  | 0 => Nat.le_refl _
  | n + 1 => by
    have := cntW_le w n
    unfold cntW
    split <;> omega
theorem cntW_pos {w : Nat → Nat} {i : Nat} (h : w i = INF) : ∀ n, i < n → 0 < cntW w n
  | 0, hn => by omega
  | n + 1, hn => by
    unfold cntW
    rcases Nat.lt_or_ge i n with h1 | h1
    · have := cntW_pos h n h1
      split <;> omega
    · rw [show n = i from by omega, if_pos h]; omega
/-- a position's share -/
def shareW (w : Nat → Nat) (of i : Nat) : Nat :=
  if 0 < cntW w of then (if w i = INF then fdivT ONE (natF (cntW w of)) else 0)
  else if sumW w of = 0 then fdivT ONE (natF of) else fdivT (w i) (sumW w of)
end Go.Proofs.Ytjppanekddljbaa.Fl
/- Shares: one weight's worth, float by float. -/
namespace Go.Proofs.Ytjppanekddljbaa.H
open Go.RowKit Go.Proofs.Ytjppanekddljbaa.Pr Go.Proofs.YtjppanekddljbaaW.PrintWords Go.Proofs.YtjppanekddljbaaW.PrintLast Go.Proofs.YtjppanekddljbaaW.PrintMore
open Go.Proofs.Ytjppanekddljbaa.Fl
/-- a float is stored as any value of one cell is -/
theorem run_store_float {P : Program} (w : World) (a : Addr) (m : Mode) (k : FloatKind) (b : Nat) : (store a (.float k b) m).run P w = stored P w a (.float k b) m := run_store P w a _ m rfl
theorem worth_calls' (x : Nat) (h : x < 18446744073709551616) (w : World) :
    Calls Try.prog 47 #[.float .f64 x] w fun e w' => e = .returned (.float .f64 (worthF x)) ∧ Drawn0 w w' :=
  (worth_calls x w).mono fun _ _ ⟨he, hd⟩ => ⟨by rw [he]; exact congrArg (fun n => Ending.returned (Value.float .f64 n)) (worthF_eq h), hd⟩
/-- a row while it is filled -/
def rowAt (f : Nat → Nat) (g : Nat → Nat) (n i : Nat) : List Nat := (List.range n).map fun j => if j < i then f j else g j
theorem rowAt_set (f g : Nat → Nat) (n i : Nat) : (rowAt f g n i).set i (f i) = rowAt f g n (i + 1) := by
  apply List.ext_getElem
  · simp [rowAt]
  · intro j h1 h2
    simp only [rowAt, List.getElem_set, List.getElem_map, List.getElem_range]
    by_cases h : i = j
    · subst h; simp
    · rw [if_neg h]
      by_cases h3 : j < i
      · rw [if_pos h3, if_pos (by omega)]
      · rw [if_neg h3, if_neg (by omega)]
theorem rowAt_get (f g : Nat → Nat) {n i j : Nat} (h : j < n) : (rowAt f g n i).getD j 0 = if j < i then f j else g j := by simp [rowAt, List.getD, h]
theorem rowAt_zero (f : Nat → Nat) (n : Nat) : rowAt f (fun _ => 0) n 0 = List.replicate n 0 := by
  apply List.ext_getElem
  · simp [rowAt]
  · intro j h1 h2; simp [rowAt]
theorem rowAt_full (f g : Nat → Nat) (n : Nat) : rowAt f g n n = (List.range n).map f := by
  apply List.map_congr_left
  intro j hj
  rw [if_pos (List.mem_range.1 hj)]
theorem rowAt_next (f g h : Nat → Nat) (n : Nat) : rowAt f g n n = rowAt h f n 0 := by
  rw [rowAt_full]
  apply List.map_congr_left
  intro j hj
  rw [if_neg (by omega)]
/-- an element of an owned row of floats, read; and a store into it -/
theorem own_f_cell {W : World} {base g n cap : Nat} {ok : Nat → Prop} {xs : List Nat} (h : kf.R 25 W base ok (.slice (some ⟨g, 0, none⟩) n cap) xs) (i : Nat) (hi : i < n) : W.cell? ⟨g, i, none⟩ = some (.float .f64 (xs.getD i 0)) := by
  obtain ⟨A, c, e, hle, hc⟩ := Kd.R_reads h
  injection e with e1 e2 e3
  subst e1 e2
  obtain ⟨ad, e4, hx⟩ := at_f hc (i : Int) (by omega) (by omega)
  cases e4
  rw [add_plain] at hx
  simpa using hx
theorem own_f_set {W : World} {base g n cap : Nat} {ok : Nat → Prop} {xs : List Nat} (h : kf.R 25 W base ok (.slice (some ⟨g, 0, none⟩) n cap) xs) (i x : Nat) :
    kf.R 25 (W.setCell ⟨g, i, none⟩ (.float .f64 x)) base ok (.slice (some ⟨g, 0, none⟩) n cap) (xs.set i x) := by
  have hl : n = xs.length := by
    obtain ⟨A, c, e, _, _⟩ := Kd.R_reads h
    injection e with _ e2 _
  have ho := Kd.own_of_R (enc := Value.float .f64) h
  rw [← hl] at ho
  have h2 := (own_store_of ho (i : Int) x).1
  simp only [Int.toNat_natCast] at h2
  refine Kd.R_of_own (enc := Value.float .f64) ?_ h.1
  rw [List.length_set, ← hl]
  exact h2
theorem own_f_frozen {W : World} {base g n cap : Nat} {ok : Nat → Prop} {xs : List Nat} (h : kf.R 25 W base ok (.slice (some ⟨g, 0, none⟩) n cap) xs) (i : Nat) : W.frozen? ⟨g, i, none⟩ = false := by
  have hl : n = xs.length := by
    obtain ⟨A, c, e, _, _⟩ := Kd.R_reads h
    injection e with _ e2 _
  have ho := Kd.own_of_R (enc := Value.float .f64) h
  rw [← hl] at ho
  exact ho.frozenAt _
end Go.Proofs.Ytjppanekddljbaa.H
/- odds.Shares: what the Go code computes. -/
namespace Go.Proofs.Ytjppanekddljbaa.H
open Go.RowKit Go.Proofs.Ytjppanekddljbaa.Pr Go.Proofs.YtjppanekddljbaaW.PrintWords Go.Proofs.YtjppanekddljbaaW.PrintLast Go.Proofs.YtjppanekddljbaaW.PrintMore
open Go.Proofs.Ytjppanekddljbaa.Fl
attribute [local go_sem] run_store_float
theorem atF_lt {l : List Nat} (hl : ∀ x ∈ l, x < 18446744073709551616) (turn i : Int) : atF l turn i < 18446744073709551616 := by
  unfold atF
  split
  · omega
  · unfold oneF
    split
    · omega
    · rename_i h1 _
      have h0 : l.length ≠ 0 := fun h => h1 (.inl h)
      have hj0 : 0 ≤ (turn % l.length + i % l.length) % (l.length : Int) := Int.emod_nonneg _ (by omega)
      have hj1 : (turn % l.length + i % l.length) % (l.length : Int) < l.length := Int.emod_lt_of_pos _ (by omega)
      have hj : ((turn % l.length + i % l.length) % (l.length : Int)).toNat < l.length := by omega
      rw [List.getD, List.getElem?_eq_getElem hj]
      exact hl _ (List.getElem_mem hj)
/-- the worths of the positions -/
def wOf (l : List Nat) (turn : Int) (i : Nat) : Nat := worthF (atF l turn i)
theorem wOf_le (l : List Nat) (turn : Int) (i : Nat) : wOf l turn i ≤ INF := worthF_le _
set_option maxHeartbeats 4000000 in
set_option maxRecDepth 100000 in
theorem shares_ok (A : Option Addr) (c : Nat) (l : List Nat) (turn : Int) (n : Nat) (w : World) (hr : kf.C w A l.length l) (hc : l.length ≤ c) (hl : l.length ≤ 4611686018427387904) (hx : ∀ x ∈ l, x < 18446744073709551616) (h1 : 1 ≤ n) (h2 : n ≤ 4096) (h3 : 0 ≤ turn) (h4 : turn ≤ 9223372036854775807) :
    Calls Try.prog 21 #[.slice A l.length c, .int .i64 turn, .int .i64 n] w fun e w' => ∃ v0_ : Value, e = .returned (.tuple #[v0_, .int .i64 0]) ∧ Kd.R kf 25 w' w.heap.size (fun _ => True) v0_ ((List.range n).map (shareW (wOf l turn) n)) ∧ Below w.heap.size w w' := by
  have HR := Aside0.mk hr
  have HC := Aside0.mk hc
  have HL := Aside0.mk hl
  have HX := Aside0.mk hx
  have HW := Aside0.mk (wOf_le l turn)
  obtain ⟨W, hW⟩ : ∃ W, W = wOf l turn := ⟨_, rfl⟩
  rw [← hW] at HW
  have HWD := Aside0.mk hW
  have g1 : decide ((n : Int) < 1) = false := decide_eq_false (by omega)
  have g2 : decide (4096 < (n : Int)) = false := decide_eq_false (by omega)
  have g3 : decide (turn < 0) = false := decide_eq_false (by omega)
  have HT := Aside0.mk h4
  have HT0 := Aside0.mk h3
  have HN1 := Aside0.mk h1
  have hn2 : n ≤ 4096 := h2
  clear hr hc hl hx hW h1 h2 h3 h4
  go_enter Try.func21, Try.ntmps21
  go_wp2_with (first
    | ((with_reducible refine gate_dst (N := 25) rfl ?_); refine Kd.R_make kf _ 25 rfl (N := 25) rfl 29 _ _ rfl (n : Int) rfl rfl Try.underlying29 (.float .f64 0) 8 info25 rfl (by decide) (by omega) 0 (ok := fun _ => True) (okp := fun _ => True) rfl (fun _ hk => hk) trivial (by omega) (by omega) (Below.refl _ _) (Nat.le_refl _) ?_; intro v1 w1 ho1 hb1 hg_ hnew_; clear hg_ hnew_; (simp only [Int.toNat_natCast] at ho1); obtain ⟨g, cap, e1, hg0, _, _⟩ := Kd.R_form ho1 (by simp; exact HN1.out); rw [List.length_replicate] at e1; subst e1; have HG := Aside0.mk hg0; clear hg0; have HO1 := Aside0.mk ho1; have HB1 := Aside0.mk hb1; clear ho1 hb1))
  go_loopg [9, 10, 28] n (fun kq v9 v10 v28 w' => ∃ (i s q : Nat), v28 = .int .i64 i ∧ v9 = .float .f64 s ∧ v10 = .float .f64 q ∧ Aside0 (kq = n - i) ∧ i ≤ n ∧ Aside0 (s = sumW W i) ∧ Aside0 (q = natF (cntW W i)) ∧ Aside0 (Kd.R kf 25 w' w.heap.size (fun _ => True) (.slice (some ⟨g, 0, none⟩) n cap) (rowAt W (fun _ => 0) n i)) ∧ Aside0 (Below w.heap.size w w'))
  case atStart => exact ⟨0, 0, 0, rfl, rfl, rfl, ⟨by omega⟩, by omega, ⟨rfl⟩, ⟨natF_zero.symm⟩, ⟨by rw [rowAt_zero]; exact HO1.out⟩, ⟨HB1.out⟩⟩
  case round =>
    obtain ⟨i, s, q, rfl, rfl, rfl, HK, hi, HS, HQ, HO, HB⟩ := hrel
    by_cases hlt : i < n
    · have HWI : Aside0 (W i = worthF (atF l turn (i : Int))) := ⟨by rw [HWD.out]; rfl⟩
      obtain ⟨x, hxx⟩ : ∃ x, W i = x := ⟨_, rfl⟩
      have hxle : x ≤ INF := by rw [← hxx]; exact HW.out i
      have HXE := Aside0.mk hxx
      have hxw : x = worthF (atF l turn (i : Int)) := hxx.symm.trans HWI.out
      have HXW := Aside0.mk hxw
      have hsle : s ≤ INF := by rw [HS.out]; exact sumW_le HW.out i
      have hqc : cntW W i ≤ i := cntW_le W i
      have HADD := Aside0.mk (faddT_ok hsle hxle)
      have hadd := fun w => run_add_ok (HADD.out).1 25 w
      have HS2 : Aside0 (faddT s x = sumW W (i + 1)) := ⟨by rw [HS.out, ← hxx]; rfl⟩
      obtain ⟨s2, hs2⟩ : ∃ s2, faddT s x = s2 := ⟨_, rfl⟩
      rw [hs2] at hadd HS2
      have HSET := Aside0.mk (own_f_set HO.out i x)
      have hfz := own_f_frozen HO.out i
      have hc0 := own_f_cell HO.out i (by omega)
      clear hxx hxw hs2 HWI
      by_cases hbig : x = INF
      · have hgt : (FloatKind.f64.format.order x 9218868437227405311 == some .gt) = true := (gt_max hxle).trans (decide_eq_true hbig)
        have HC2 : Aside0 (cntW W (i + 1) = cntW W i + 1) := ⟨by rw [cntW, if_pos (HXE.out.trans hbig)]⟩
        obtain ⟨m, hm⟩ : ∃ m, cntW W i = m := ⟨_, rfl⟩
        rw [hm] at HC2 hqc
        have HST := Aside0.mk (natF_step (show m < 4096 by omega))
        have HQ1 : Aside0 (q = natF m) := ⟨by rw [HQ.out, hm]⟩
        have hinc : ∀ w, (binOp .add 25 (.float .f64 q) (.float .f64 4607182418800017408)).run Try.prog w = .ok (.float .f64 (natF (m + 1))) w := fun w => run_add_ok (by rw [HQ1.out]; exact HST.out.1) 25 w
        obtain ⟨q2, hq2⟩ : ∃ q2, natF (m + 1) = q2 := ⟨_, rfl⟩
        rw [hq2] at hinc
        have HQ2 : Aside0 (q2 = natF (cntW W (i + 1))) := ⟨by rw [HC2.out, hq2]⟩
        clear hm hq2 hbig hxle hsle HQ
        go_wp2_with (first
          | (go_at_call 48; refine (at_calls A c l turn (i : Int) _ (Kd.C_below HR.out HB.out) HC.out HL.out HT.out (by omega)).mono ?_; rintro e w' ⟨rfl, ⟨nd1, rfl⟩⟩)
          | (go_at_call 47; refine (worth_calls' _ (atF_lt HX.out _ _) _).mono ?_; rintro e w' ⟨rfl, ⟨nd2, rfl⟩⟩; rw [← HXW.out])
          | ((with_reducible refine gate_store (t := 25) (p := 38) rfl ?_); refine store_event (t := 25) (p := 38) (v := ?vo) (w1 := ((wr.drewN (nd1 + nd2)).setCell ⟨g, i, none⟩ (.float .f64 x))) ?hg ?ho ?hn ?hr ?_; (case ho => rfl); (case hg => rfl); (case hn => rfl); (case hr => first | (go_simp; done) | (go_simp; rfl)); intro w14 hw; have HO2 := Aside0.mk (show Kd.R kf 25 w14 w.heap.size (fun _ => True) (.slice (some ⟨g, 0, none⟩) n cap) (rowAt W (fun _ => 0) n (i + 1)) from by rw [hw, ← rowAt_set, HXE.out]; exact own_f_set (Kd.R_drewN HO.out _) i x); have HB2 := Aside0.mk (show Below w.heap.size w w14 from by rw [hw]; exact below_set (pw_below_drewN HB.out _) HG.out); have hc2 : w14.cell? ⟨g, i, none⟩ = some (.float .f64 x) := (by have h_ := own_f_cell HO2.out i (by omega); rw [rowAt_get _ _ (by omega), if_pos (by omega), HXE.out] at h_; exact h_); clear hw hfz hc0 HO HB))
        go_roundg (n - (i + 1))
        case measure => have := HK.out; omega
        case rel => exact ⟨i + 1, s2, q2, by go_num, rfl, rfl, ⟨rfl⟩, by omega, HS2, HQ2, HO2, HB2⟩
      · have hgt : (FloatKind.f64.format.order x 9218868437227405311 == some .gt) = false := (gt_max hxle).trans (decide_eq_false hbig)
        have HQ2 : Aside0 (q = natF (cntW W (i + 1))) := ⟨by rw [cntW, if_neg (fun h => hbig (HXE.out.symm.trans h))]; exact HQ.out⟩
        clear hbig hxle hsle HQ
        go_wp2_with (first
          | (go_at_call 48; refine (at_calls A c l turn (i : Int) _ (Kd.C_below HR.out HB.out) HC.out HL.out HT.out (by omega)).mono ?_; rintro e w' ⟨rfl, ⟨nd1, rfl⟩⟩)
          | (go_at_call 47; refine (worth_calls' _ (atF_lt HX.out _ _) _).mono ?_; rintro e w' ⟨rfl, ⟨nd2, rfl⟩⟩; rw [← HXW.out])
          | ((with_reducible refine gate_store (t := 25) (p := 38) rfl ?_); refine store_event (t := 25) (p := 38) (v := ?vo) (w1 := ((wr.drewN (nd1 + nd2)).setCell ⟨g, i, none⟩ (.float .f64 x))) ?hg ?ho ?hn ?hr ?_; (case ho => rfl); (case hg => rfl); (case hn => rfl); (case hr => first | (go_simp; done) | (go_simp; rfl)); intro w14 hw; have HO2 := Aside0.mk (show Kd.R kf 25 w14 w.heap.size (fun _ => True) (.slice (some ⟨g, 0, none⟩) n cap) (rowAt W (fun _ => 0) n (i + 1)) from by rw [hw, ← rowAt_set, HXE.out]; exact own_f_set (Kd.R_drewN HO.out _) i x); have HB2 := Aside0.mk (show Below w.heap.size w w14 from by rw [hw]; exact below_set (pw_below_drewN HB.out _) HG.out); have hc2 : w14.cell? ⟨g, i, none⟩ = some (.float .f64 x) := (by have h_ := own_f_cell HO2.out i (by omega); rw [rowAt_get _ _ (by omega), if_pos (by omega), HXE.out] at h_; exact h_); clear hw hfz hc0 HO HB))
        go_roundg (n - (i + 1))
        case measure => have := HK.out; omega
        case rel => exact ⟨i + 1, s2, q, by go_num, rfl, rfl, ⟨rfl⟩, by omega, HS2, HQ2, HO2, HB2⟩
    · obtain rfl : i = n := by omega
      have HO2 : Aside0 (Kd.R kf 25 wr w.heap.size (fun _ => True) (.slice (some ⟨g, 0, none⟩) i cap) (rowAt (shareW W i) W i 0)) := ⟨by rw [← rowAt_next W (fun _ => 0) (shareW W i) i]; exact HO.out⟩
      have HCNT := Aside0.mk (cntW_le W i)
      have hsle : s ≤ INF := by rw [HS.out]; exact sumW_le HW.out i
      have hqle : q ≤ INF := by rw [HQ.out]; exact natF_le (by have := HCNT.out; omega)
      have HSE := Aside0.mk hsle
      have HQE := Aside0.mk hqle
      clear HO hsle hqle hlt
      go_wp2
      go_loopg [55] i (fun kq v55 w' => ∃ j : Nat, v55 = .int .i64 j ∧ Aside0 (kq = i - j) ∧ j ≤ i ∧ Aside0 (Kd.R kf 25 w' w.heap.size (fun _ => True) (.slice (some ⟨g, 0, none⟩) i cap) (rowAt (shareW W i) W i j)) ∧ Aside0 (Below w.heap.size w w'))
      case atStart => exact ⟨0, rfl, ⟨by omega⟩, by omega, HO2, HB⟩
      case round =>
        clear HO2 HB
        obtain ⟨j, rfl, HK2, hj, HO, HB⟩ := hrel
        by_cases hlt : j < i
        · obtain ⟨x, hxx⟩ : ∃ x, W j = x := ⟨_, rfl⟩
          have hxle : x ≤ INF := by rw [← hxx]; exact HW.out j
          have HXE := Aside0.mk hxx
          have hc0 : wr.cell? ⟨g, j, none⟩ = some (.float .f64 x) := by
            have h_ := own_f_cell HO.out j hlt
            rw [rowAt_get _ _ hlt, if_neg (by omega), HXE.out] at h_
            exact h_
          have hfz := own_f_frozen HO.out j
          obtain ⟨y, hy⟩ : ∃ y, shareW W i j = y := ⟨_, rfl⟩
          have HYE := Aside0.mk hy
          have HSET : Aside0 (Kd.R kf 25 (wr.setCell ⟨g, j, none⟩ (.float .f64 y)) w.heap.size (fun _ => True) (.slice (some ⟨g, 0, none⟩) i cap) (rowAt (shareW W i) W i (j + 1))) := ⟨by rw [← rowAt_set, HYE.out]; exact own_f_set HO.out j y⟩
          have HBS : Aside0 (Below w.heap.size w (wr.setCell ⟨g, j, none⟩ (.float .f64 y))) := ⟨below_set HB.out HG.out⟩
          have hcv : ∀ w, (convert 3 25 (.int .i64 (i : Int))).run Try.prog w = .ok (.float .f64 (natF i)) w := fun w => by
            rw [run_convert_int_float w 3 25 .i64 .f64 (i : Int) (by kernel_rfl) Try.underlying25]
            have : (decide ((i : Int) < 0)) = false := decide_eq_false (by omega)
            simp only [floatOfInt, FloatKind.nearest, FloatKind.encode, this, Int.natAbs_natCast]
            rfl
          clear hxx hy
          by_cases hcnt : 0 < cntW W i
          · have hq0 : (FloatKind.f64.format.order q 0 == some .gt) = true := (gt_zero (by have := HQE.out; unfold INF at this; omega)).trans (decide_eq_true ⟨Nat.pos_of_ne_zero (by rw [HQ.out]; exact (natF_pos hcnt (by have := HCNT.out; omega)).2), HQE.out⟩)
            by_cases hbig : x = INF
            · have hgt : (FloatKind.f64.format.order x 9218868437227405311 == some .gt) = true := (gt_max hxle).trans (decide_eq_true hbig)
              have HD : Aside0 (fdivT ONE q = y) := ⟨by rw [← HYE.out, shareW, if_pos hcnt, if_pos (HXE.out.trans hbig), HQ.out]⟩
              have hdv : ∀ w, (binOp .quo 25 (.float .f64 4607182418800017408) (.float .f64 q)).run Try.prog w = .ok (.float .f64 y) w := fun w => run_float_arith w .quo 25 .f64 _ _ _ (by rw [← HD.out]; exact (fdivT_one HQE.out).1)
              clear hbig hxle hcnt
              go_wp2
              go_roundg (i - (j + 1))
              case measure => have := HK2.out; omega
              case rel => exact ⟨j + 1, by go_num, ⟨rfl⟩, by omega, HSET, HBS⟩
            · have hgt : (FloatKind.f64.format.order x 9218868437227405311 == some .gt) = false := (gt_max hxle).trans (decide_eq_false hbig)
              have hy0 : y = 0 := by rw [← HYE.out, shareW, if_pos hcnt, if_neg (fun h => hbig (HXE.out.symm.trans h))]
              subst hy0
              clear hbig hxle hcnt
              go_wp2
              go_roundg (i - (j + 1))
              case measure => have := HK2.out; omega
              case rel => exact ⟨j + 1, by go_num, ⟨rfl⟩, by omega, HSET, HBS⟩
          · have hqz : q = 0 := by rw [HQ.out, show cntW W i = 0 from by omega]; exact natF_zero
            have HNB : Aside0 (x ≠ INF) := ⟨fun h => hcnt (cntW_pos (HXE.out.trans h) i hlt)⟩
            have hq0 : (FloatKind.f64.format.order q 0 == some .gt) = false := by rw [hqz]; decide
            clear hqz
            by_cases hs0 : s = 0
            · have hse : (FloatKind.f64.format.order s 0 == some .eq) = true := (eq_zero HSE.out).trans (decide_eq_true hs0)
              have HD : Aside0 (fdivT ONE (natF i) = y) := ⟨by rw [← HYE.out, shareW, if_neg hcnt, if_pos (HS.out.symm.trans hs0)]⟩
              have hdv : ∀ w, (binOp .quo 25 (.float .f64 4607182418800017408) (.float .f64 (natF i))).run Try.prog w = .ok (.float .f64 y) w := fun w => run_float_arith w .quo 25 .f64 _ _ _ (by rw [← HD.out]; exact (fdivT_one (natF_le hn2)).1)
              clear hs0 hxle hcnt
              go_wp2
              go_roundg (i - (j + 1))
              case measure => have := HK2.out; omega
              case rel => exact ⟨j + 1, by go_num, ⟨rfl⟩, by omega, HSET, HBS⟩
            · have hse : (FloatKind.f64.format.order s 0 == some .eq) = false := (eq_zero HSE.out).trans (decide_eq_false hs0)
              have HD : Aside0 (fdivT x s = y) := ⟨by rw [← HYE.out, shareW, if_neg hcnt, if_neg (fun h => hs0 (HS.out.trans h)), HS.out, HXE.out]⟩
              have hdv : ∀ w, (binOp .quo 25 (.float .f64 x) (.float .f64 s)).run Try.prog w = .ok (.float .f64 y) w := fun w => run_float_arith w .quo 25 .f64 _ _ _ (by rw [← HD.out]; exact (fdivT_fin (by have := HNB.out; omega) HSE.out hs0).1)
              clear hs0 hxle hcnt
              go_wp2
              go_roundg (i - (j + 1))
              case measure => have := HK2.out; omega
              case rel => exact ⟨j + 1, by go_num, ⟨rfl⟩, by omega, HSET, HBS⟩
        · obtain rfl : j = i := by omega
          have HO3 : Aside0 (Kd.R kf 25 wr w.heap.size (fun _ => True) (.slice (some ⟨g, 0, none⟩) j cap) ((List.range j).map (shareW (wOf l turn) j))) := ⟨by rw [← HWD.out, ← rowAt_full (shareW W j) W j]; exact HO.out⟩
          go_wp2
          go_ret2
          exact ⟨_, rfl, HO3.out, HB.out⟩
end Go.Proofs.Ytjppanekddljbaa.H
/- odds.Chance: what the Go code computes. -/
namespace Go.Proofs.Ytjppanekddljbaa.H
open Go.RowKit Go.Proofs.Ytjppanekddljbaa.Pr Go.Proofs.YtjppanekddljbaaW.PrintWords Go.Proofs.YtjppanekddljbaaW.PrintLast Go.Proofs.YtjppanekddljbaaW.PrintMore
open Go.Proofs.Ytjppanekddljbaa.Fl
attribute [local go_sem] run_store_float
def pickOf (log : List S68) (i : Nat) : Nat := (rd_T68 log i).f0.toNat
def pickTook (log : List S68) (i : Nat) : Nat := (rd_T68 log i).f1.toNat
/-- how likely the first picks are; none: a product is no number -/
def chanceTo (l : List Nat) (log : List S68) : Nat → Option Nat
  | 0 => some ONE
  | i + 1 => (chanceTo l log i).bind fun c => Ieee.double.mul c (shareW (wOf l i) (pickOf log i) (pickTook log i))
theorem chanceTo_some {l : List Nat} {log : List S68} : ∀ {n : Nat}, (∃ r, chanceTo l log n = some r) → ∀ i, i ≤ n → ∃ r, chanceTo l log i = some r
  | 0, h, i, hi => by rw [show i = 0 from by omega]; exact h
  | n + 1, h, i, hi => by
    rcases Nat.lt_or_ge n i with h1 | h1
    · rw [show i = n + 1 from by omega]; exact h
    · obtain ⟨r, hr⟩ := h
      obtain ⟨c, hc, _⟩ := Option.bind_eq_some_iff.1 hr
      exact chanceTo_some ⟨c, hc⟩ i h1
theorem goodB_at {log : List S68} (h : goodB log = true) (i : Nat) (hi : i < log.length) : 2 ≤ (rd_T68 log i).f0 ∧ 0 ≤ (rd_T68 log i).f1 ∧ (rd_T68 log i).f1 < (rd_T68 log i).f0 ∧ (rd_T68 log i).f0 ≤ 4096 := by
  unfold goodB BigB at h
  simp only [Bool.and_eq_true, Bool.not_eq_true', List.all_eq_true, List.any_eq_false] at h
  have h1 := h.1 log[i] (List.getElem_mem hi)
  have h2 := h.2 log[i] (List.getElem_mem hi)
  unfold okP at h1
  rw [rd68 log i hi]
  simp at h1 h2
  omega
set_option maxHeartbeats 4000000 in
set_option maxRecDepth 100000 in
theorem chance_ok (A : Option Addr) (c : Nat) (l : List Nat) (B : Option Addr) (d : Nat) (log : List S68) (r : Nat) (w : World) (hr0 : kf.C w A l.length l) (hc0 : l.length ≤ c) (hl : l.length ≤ 4611686018427387904) (hx : ∀ x ∈ l, x < 18446744073709551616)
    (hr : Kd.C k68 w B log.length log) (hc : log.length ≤ d) (hn : log.length ≤ 8796093022208) (hg : goodB log = true) (hch : chanceTo l log log.length = some r) :
    Calls Try.prog 8 #[.slice A l.length c, .slice B log.length d] w fun e w' => e = .returned (.tuple #[.float .f64 r, .int .i64 0]) ∧ Below w.heap.size w w' := by
  have hu68 := Try.underlying68
  have HR0 := Aside0.mk hr0
  have HC0 := Aside0.mk hc0
  have HL := Aside0.mk hl
  have HX := Aside0.mk hx
  have HR := Aside0.mk hr
  have HC := Aside0.mk hc
  have HN := Aside0.mk hn
  have HGB := Aside0.mk hg
  have HCH := Aside0.mk hch
  have HG : Aside0 (odds_good.f 0 log = some true) := ⟨by rw [odds_good.f, if_pos hn, hg]⟩
  have hmax : log.length ≤ 9223372036854775807 := by omega
  clear hr hc hn hg hch hr0 hc0 hl hx
  go_enter Try.func8, Try.ntmps8
  go_wp2_with (go_at_call 27; refine (odds_good.calls 0 B d log true _ HR.out HC.out HG.out).mono ?_; rintro e w' ⟨rfl, hb⟩; have HB := Aside0.mk hb; clear hb)
  go_loopg [6, 16] log.length (fun kq v6 v16 w' => ∃ (i s : Nat), v16 = .int .i64 i ∧ v6 = .float .f64 s ∧ Aside0 (kq = log.length - i) ∧ i ≤ log.length ∧ Aside0 (chanceTo l log i = some s) ∧ Aside0 (Below w.heap.size w w'))
  case atStart => exact ⟨0, ONE, rfl, rfl, ⟨by omega⟩, by omega, ⟨rfl⟩, ⟨HB.out⟩⟩
  case round =>
    clear HB
    obtain ⟨i, s, rfl, rfl, HK, hi, HS, HB⟩ := hrel
    by_cases hlt : i < log.length
    · obtain ⟨ad, e, hx0, hx1⟩ := at_T68 HR.out (i : Int) (by omega) (by omega)
      cases e
      replace hx0 := (HB.out.cell (World.block_lt_of_cell? w _ hx0)).trans hx0
      replace hx1 := (HB.out.cell (World.block_lt_of_cell? w _ hx1)).trans hx1
      simp only [Int.toNat_natCast] at hx0 hx1
      obtain ⟨p1, p2, p3, p4⟩ := goodB_at HGB.out i hlt
      obtain ⟨s2, hs2⟩ := chanceTo_some ⟨r, HCH.out⟩ (i + 1) (by omega)
      have hm : Ieee.double.mul s (shareW (wOf l i) (pickOf log i) (pickTook log i)) = some s2 := by rw [chanceTo, HS.out] at hs2; exact hs2
      have HM := Aside0.mk hm
      have HS2 := Aside0.mk hs2
      clear hm hs2
      obtain ⟨n, hnn⟩ : ∃ n : Nat, (rd_T68 log i).f0 = (n : Int) := ⟨(rd_T68 log i).f0.toNat, by omega⟩
      obtain ⟨j, hjj⟩ : ∃ j : Nat, (rd_T68 log i).f1 = (j : Int) := ⟨(rd_T68 log i).f1.toNat, by omega⟩
      have HPO : Aside0 (pickOf log i = n) := ⟨by unfold pickOf; rw [hnn]; rfl⟩
      have HPT : Aside0 (pickTook log i = j) := ⟨by unfold pickTook; rw [hjj]; rfl⟩
      rw [hnn] at hx0 p1 p3 p4
      rw [hjj] at hx1 p2 p3
      clear hnn hjj
      have hmul : ∀ w, (binOp .mul 25 (.float .f64 s) (.float .f64 (shareW (wOf l i) n j))).run Try.prog w = .ok (.float .f64 s2) w := fun w => run_float_arith w .mul 25 .f64 _ _ _ (by have h_ := HM.out; rw [HPO.out, HPT.out] at h_; exact h_)
      obtain ⟨y, hy⟩ : ∃ y, shareW (wOf l i) n j = y := ⟨_, rfl⟩
      rw [hy] at hmul
      have HY := Aside0.mk hy
      clear hy
      go_wp2_with (go_at_call 21; refine (shares_ok A c l (i : Int) n _ (Kd.C_alloc (Kd.C_below HR0.out HB.out) _) HC0.out HL.out HX.out (by omega) (by omega) (by omega) (by omega)).mono ?_; rintro e w2 ⟨v0, rfl, ho, hb⟩; obtain ⟨g, cap, e1, hg0, _, _⟩ := Kd.R_form ho (by simp; omega); (simp only [List.length_map, List.length_range] at e1); subst e1; have HB2 := Aside0.mk (below_then (below_alloc HB.out _) (below_alloc HB.out _).size hb); have hc8 : w2.cell? ⟨wr.heap.size, 1, none⟩ = some (.int .i64 j) := (by rw [hb.cell (p := ⟨wr.heap.size, 1, none⟩) (by simp)]; go_simp); have hce : w2.cell? ⟨g, j, none⟩ = some (.float .f64 y) := (by have h_ := own_f_cell ho j (by omega); rw [← HY.out]; simpa [List.getD, show j < n by omega] using h_); clear ho hb hg0)
      go_roundg (log.length - (i + 1))
      case measure => have := HK.out; omega
      case rel => exact ⟨i + 1, s2, by go_num, rfl, ⟨rfl⟩, by omega, HS2, HB2⟩
    · have HE : Aside0 (s = r) := ⟨by have h1 := HS.out; rw [show i = log.length from by omega, HCH.out] at h1; exact (Option.some.inj h1).symm⟩
      go_wp2
      go_ret2
      exact ⟨by rw [← HE.out]; rfl, HB.out⟩
end Go.Proofs.Ytjppanekddljbaa.H
/- What the kit's print wrote for these functions, taken together by wip/pick.py: each function's Lean function and that the Go code comes to it. -/
namespace Go.Proofs.Ytjppanekddljbaa.Pr
open Go.RowKit Go.Proofs.YtjppanekddljbaaW.PrintWords Go.Proofs.YtjppanekddljbaaW.PrintLast Go.Proofs.YtjppanekddljbaaW.PrintMore
attribute [local go_sem] max2_int min2_int max_two min_two max_three min_three max_four min_four
mutual
def sibylref01_Common.j1 : Nat → List Int → List Int → Int → Option (List Int)
 | 0, _, _, _ => none
 | k + 1, x5, x6, x7 => (sibylref01_Shr.f k x5 x7).bind fun t304 => ((sibylref01_Shr.f k x6 x7).bind fun t307 => (sibylref01_Common.l1 k t304 t307 x7))
def sibylref01_Common.l1 : Nat → List Int → List Int → Int → Option (List Int)
 | 0, _, _, _ => none
 | k + 1, x5, x6, x7 => if (x5.length : Int) > 0 then (sibylref01_Common.j3 k x5 x6 x7 (decide ((x6.length : Int) > 0))) else (sibylref01_Common.j3 k x5 x6 x7 false)
def sibylref01_Common.j3 : Nat → List Int → List Int → Int → Bool → Option (List Int)
 | 0, _, _, _, _ => none
 | k + 1, x5, x6, x7, x45 => if x45 = true then ((sibylref01_Bit.f x5 0).bind fun t316 => (if t316 = true then ((sibylref01_Bit.f x6 0).bind fun t317 => (if t317 = true then ((sibylref01_Cmp.f k x5 x6).bind fun t318 => (if t318 ≥ 0 then ((sibylref01_Minus.f k x5 x6).bind fun t319 => (sibylref01_Common.l1 k t319 x6 x7)) else ((sibylref01_Minus.f k x6 x5).bind fun t322 => (sibylref01_Common.l1 k x5 t322 x7)))) else ((sibylref01_Shr.f k x6 1).bind fun t325 => (sibylref01_Common.l1 k x5 t325 x7)))) else ((sibylref01_Shr.f k x5 1).bind fun t328 => (sibylref01_Common.l1 k t328 x6 x7)))) else ((sibylref01_Plus.f k x5 x6).bind fun t310 => ((sibylref01_Shl.f k t310 x7).bind fun t313 => (some t313)))
def sibylref01_Common.l0 : Nat → List Int → List Int → Int → Option (List Int)
 | 0, _, _, _ => none
 | k + 1, x5, x6, x7 => (sibylref01_Bit.f x5 x7).bind fun t302 => (if t302 = true then (sibylref01_Common.j1 k x5 x6 x7) else ((sibylref01_Bit.f x6 x7).bind fun t303 => (if t303 = true then (sibylref01_Common.j1 k x5 x6 x7) else (sibylref01_Common.l0 k x5 x6 (wrap64 (x7 + 1))))))
end
def sibylref01_Common.f (k : Nat) (l0 : List Int) (l1 : List Int) : Option (List Int) := (sibylref01_Trim.f k l0).bind fun t296 => ((sibylref01_Trim.f k l1).bind fun t299 => (if (t296.length : Int) = 0 then (some t299) else (if (t299.length : Int) = 0 then (some t296) else (sibylref01_Common.l0 k t296 t299 0))))
set_option maxHeartbeats 8000000 in
set_option maxRecDepth 100000 in
theorem sibylref01_Common.calls (k : Nat) (A0 : Option Addr) (c0 : Nat) (l0 : List Int) (A1 : Option Addr) (c1 : Nat) (l1 : List Int) (r : List Int) (w : World) (hr0 : Kd.C (Kd.int .u32) w A0 l0.length l0) (hc0 : l0.length ≤ c0) (hr1 : Kd.C (Kd.int .u32) w A1 l1.length l1) (hc1 : l1.length ≤ c1) (h : sibylref01_Common.f k l0 l1 = some r) :
  Calls Try.prog 81 #[.slice A0 l0.length c0, .slice A1 l1.length c1] w fun e w' => ∃ v0_ : Value, e = .returned (v0_) ∧ Kd.R (Kd.int .u32) 99 w' w.heap.size (fun _ => True) v0_ r ∧ Below w.heap.size w w' := by
 have HR0 := Aside0.mk hr0
 have HC0 := Aside0.mk hc0
 clear hr0 hc0
 have HR1 := Aside0.mk hr1
 have HC1 := Aside0.mk hc1
 clear hr1 hc1
 have HB := Aside0.mk (Below.refl w.heap.size w)
 have H : ((sibylref01_Trim.f k l0).bind fun t296 => ((sibylref01_Trim.f k l1).bind fun t299 => (if (t296.length : Int) = 0 then (some t299) else (if (t299.length : Int) = 0 then (some t296) else (sibylref01_Common.l0 k t296 t299 0))))) = some r := h
 clear h
 obtain ⟨t296, A3, H⟩ := bindA H
 obtain ⟨t299, A4, H⟩ := bindA H
 by_cases c5 : (t296.length : Int) = 0
 ·rw [if_pos c5] at H
  have c5b0 : ((t296.length : Int) == 0) = true := beq_iff_eq.mpr c5
  have c5b1 : ((t296.length : Int) != 0) = false := bne_eq_false_iff_eq.mpr c5
  clear c5
  obtain rfl := Option.some.inj H
  go_enter Try.func81, Try.ntmps81
  go_wp2_with (first | ((with_reducible refine gate_callee (f := 83) rfl ?_); refine goesM (some 9) rfl rfl Try.func83 (by kernel_rfl) rfl #[.slice A0 l0.length c0] rfl (by rfl) ?_; (with_reducible refine (sibylref01_Trim.calls k _ _ l0 t296 _ ?side1 ?side2 A3.out).mono ?_); (case side1 => exact ca HR0.out); (case side2 => exact HC0.out); rintro e w6 ⟨v297, rfl, ho0, hb⟩; refine ⟨_, rfl, ?_⟩; have n_ := mk2 (Kd.R_lower ho0 (below_size (bl HB))) (below_step (bl HB) hb); clear HB; obtain ⟨HO298, HB⟩ := n_; (try clear hb); (try clear hb2); (try clear hk); (try clear hi); (try clear ho0)) | ((with_reducible refine gate_callee (f := 83) rfl ?_); refine goesM (some 11) rfl rfl Try.func83 (by kernel_rfl) rfl #[.slice A1 l1.length c1] rfl (by rfl) ?_; (with_reducible refine (sibylref01_Trim.calls k _ _ l1 t299 _ ?side1 ?side2 A4.out).mono ?_); (case side1 => exact ca (Kd.C_below HR1.out HB.out)); (case side2 => exact HC1.out); rintro e w7 ⟨v300, rfl, ho0, hb⟩; refine ⟨_, rfl, ?_⟩; have n_ := mk3 (Kd.R_elder' (ra HO298.out) (Kd.R_base ho0) hb) (Kd.R_lower (Kd.R_new' ho0 (Kd.R_lt (ra HO298.out))) (below_size (bl HB))) (below_step (bl HB) hb); clear HO298 HB; obtain ⟨HO298, HO301, HB⟩ := n_; (try clear hb); (try clear hb2); (try clear hk); (try clear hi); (try clear ho0); obtain ⟨Ao8, co8, eo8⟩ := Kd.R_slice HO298.out; subst eo8))
  go_ret
  exact ⟨_, by first | rfl | simp [*], ra (Kd.R_mono HO301.out (fun _ hk => trivial)), bl HB⟩
 ·rw [if_neg c5] at H
  have c5b0 : ((t296.length : Int) == 0) = false := beq_eq_false_iff_ne.mpr c5
  have c5b1 : ((t296.length : Int) != 0) = true := bne_iff_ne.mpr c5
  have c5b2 : ¬ (t296 = []) := fun h_ => c5 (by rw [h_]; rfl)
  by_cases c9 : (t299.length : Int) = 0
  ·rw [if_pos c9] at H
   have c9b0 : ((t299.length : Int) == 0) = true := beq_iff_eq.mpr c9
   have c9b1 : ((t299.length : Int) != 0) = false := bne_eq_false_iff_eq.mpr c9
   clear c9
   obtain rfl := Option.some.inj H
   go_enter Try.func81, Try.ntmps81
   go_wp2_with (first | ((with_reducible refine gate_callee (f := 83) rfl ?_); refine goesM (some 9) rfl rfl Try.func83 (by kernel_rfl) rfl #[.slice A0 l0.length c0] rfl (by rfl) ?_; (with_reducible refine (sibylref01_Trim.calls k _ _ l0 t296 _ ?side1 ?side2 A3.out).mono ?_); (case side1 => exact ca HR0.out); (case side2 => exact HC0.out); rintro e w10 ⟨v297, rfl, ho0, hb⟩; refine ⟨_, rfl, ?_⟩; have n_ := mk2 (Kd.R_lower ho0 (below_size (bl HB))) (below_step (bl HB) hb); clear HB; obtain ⟨HO298, HB⟩ := n_; (try clear hb); (try clear hb2); (try clear hk); (try clear hi); (try clear ho0)) | ((with_reducible refine gate_callee (f := 83) rfl ?_); refine goesM (some 11) rfl rfl Try.func83 (by kernel_rfl) rfl #[.slice A1 l1.length c1] rfl (by rfl) ?_; (with_reducible refine (sibylref01_Trim.calls k _ _ l1 t299 _ ?side1 ?side2 A4.out).mono ?_); (case side1 => exact ca (Kd.C_below HR1.out HB.out)); (case side2 => exact HC1.out); rintro e w11 ⟨v300, rfl, ho0, hb⟩; refine ⟨_, rfl, ?_⟩; have n_ := mk3 (Kd.R_elder' (ra HO298.out) (Kd.R_base ho0) hb) (Kd.R_lower (Kd.R_new' ho0 (Kd.R_lt (ra HO298.out))) (below_size (bl HB))) (below_step (bl HB) hb); clear HO298 HB; obtain ⟨HO298, HO301, HB⟩ := n_; (try clear hb); (try clear hb2); (try clear hk); (try clear hi); (try clear ho0); obtain ⟨Ao12, co12, eo12⟩ := Kd.R_slice HO298.out; subst eo12; obtain ⟨Ao13, co13, eo13⟩ := Kd.R_slice HO301.out; subst eo13))
   go_ret
   exact ⟨_, by first | rfl | simp [*], ra (Kd.R_mono HO298.out (fun _ hk => trivial)), bl HB⟩
  ·rw [if_neg c9] at H
   have c9b0 : ((t299.length : Int) == 0) = false := beq_eq_false_iff_ne.mpr c9
   have c9b1 : ((t299.length : Int) != 0) = true := bne_iff_ne.mpr c9
   have c9b2 : ¬ (t299 = []) := fun h_ => c9 (by rw [h_]; rfl)
   have HC14 := Aside0.mk H
   clear H
   go_enter Try.func81, Try.ntmps81
   go_upto_block 0 with (first | ((with_reducible refine gate_callee (f := 83) rfl ?_); refine goesM (some 9) rfl rfl Try.func83 (by kernel_rfl) rfl #[.slice A0 l0.length c0] rfl (by rfl) ?_; (with_reducible refine (sibylref01_Trim.calls k _ _ l0 t296 _ ?side1 ?side2 A3.out).mono ?_); (case side1 => exact ca HR0.out); (case side2 => exact HC0.out); rintro e w15 ⟨v297, rfl, ho0, hb⟩; refine ⟨_, rfl, ?_⟩; have n_ := mk2 (Kd.R_lower ho0 (below_size (bl HB))) (below_step (bl HB) hb); clear HB; obtain ⟨HO298, HB⟩ := n_; (try clear hb); (try clear hb2); (try clear hk); (try clear hi); (try clear ho0)) | ((with_reducible refine gate_callee (f := 83) rfl ?_); refine goesM (some 11) rfl rfl Try.func83 (by kernel_rfl) rfl #[.slice A1 l1.length c1] rfl (by rfl) ?_; (with_reducible refine (sibylref01_Trim.calls k _ _ l1 t299 _ ?side1 ?side2 A4.out).mono ?_); (case side1 => exact ca (Kd.C_below HR1.out HB.out)); (case side2 => exact HC1.out); rintro e w16 ⟨v300, rfl, ho0, hb⟩; refine ⟨_, rfl, ?_⟩; have n_ := mk3 (Kd.R_elder' (ra HO298.out) (Kd.R_base ho0) hb) (Kd.R_lower (Kd.R_new' ho0 (Kd.R_lt (ra HO298.out))) (below_size (bl HB))) (below_step (bl HB) hb); clear HO298 HB; obtain ⟨HO298, HO301, HB⟩ := n_; (try clear hb); (try clear hb2); (try clear hk); (try clear hi); (try clear ho0); obtain ⟨Ao17, co17, eo17⟩ := Kd.R_slice HO298.out; subst eo17; obtain ⟨Ao18, co18, eo18⟩ := Kd.R_slice HO301.out; subst eo18))
   (try simp only [Act.put, List.setIfInBounds_toArray, List.set_cons_zero, List.set_cons_succ])
   go_cut [7] (fun v7 wc => ∃ (kq : Nat) (x7_13 : Int), v7 = .int .i64 x7_13 ∧ Aside0 (sibylref01_Common.j1 kq t296 t299 x7_13 = some r) ∧ Aside0 (kq ≤ k) ∧ Aside0 (Kd.R (Kd.int .u32) 99 wc w.heap.size (fun k_ => some k_ ≠ ((.slice Ao18 t299.length co18) : Value).ownBlock) (.slice Ao17 t296.length co17) t296) ∧ Aside0 (Kd.R (Kd.int .u32) 99 wc w.heap.size (fun k_ => some k_ ≠ ((.slice Ao17 t296.length co17) : Value).ownBlock) (.slice Ao18 t299.length co18) t299) ∧ Aside0 (Below w.heap.size w wc))
   case first =>
    have H := HC14.out
    clear HC14
    have H' := Aside0.mk H
    clear H
    go_wp2
    go_loopg [7] k (fun kq v7 w' => ∃ (x7_1 : Int), v7 = .int .i64 x7_1 ∧ Aside0 (sibylref01_Common.l0 kq t296 t299 x7_1 = some r) ∧ Aside0 (kq ≤ k) ∧ Aside0 (Kd.R (Kd.int .u32) 99 w' w.heap.size (fun k_ => some k_ ≠ ((.slice Ao18 t299.length co18) : Value).ownBlock) (.slice Ao17 t296.length co17) t296) ∧ Aside0 (Kd.R (Kd.int .u32) 99 w' w.heap.size (fun k_ => some k_ ≠ ((.slice Ao17 t296.length co17) : Value).ownBlock) (.slice Ao18 t299.length co18) t299) ∧ Aside0 (Below w.heap.size w w'))
    case atStart => exact ⟨(0), (by first | rfl | (simp; done) | (simp [*]; done)), H', ⟨Nat.le_refl _⟩, ⟨ra (Kd.R_mono HO298.out (fun _ hk => hk.2))⟩, ⟨ra (Kd.R_mono HO301.out (fun _ hk => hk.2))⟩, ⟨bl HB⟩⟩
    case round =>
     clear H'
     try clear c1
     try clear p2
     try clear c5
     try clear c5b0
     try clear c5b1
     try clear c5b2
     try clear c8
     try clear c9
     try clear c9b0
     try clear c9b1
     try clear c9b2
     obtain ⟨x7_1, rfl, HA, HK1, HO_5, HO_6, HB⟩ := hrel
     cases gk with
     | zero => exact absurd HA.out (by simp [sibylref01_Common.l0])
     | succ k1 =>
      have H := HA.out
      clear HA
      simp only [sibylref01_Common.l0] at H
      obtain ⟨t302, A19, H⟩ := bindA H
      by_cases c20 : t302 = true
      ·subst c20
       have H1 : (sibylref01_Common.j1 k1 t296 t299 x7_1) = some r := by rw [if_pos rfl] at H; exact H
       clear H
       have H := H1
       clear H1
       have H' := Aside0.mk H
       clear H
       go_wp2_with (first | ((with_reducible refine gate_callee (f := 95) rfl ?_); refine goesM (some 22) rfl rfl Try.func95 (by kernel_rfl) rfl #[.slice Ao17 t296.length co17, .int .i64 x7_1] rfl (by rfl) ?_; (with_reducible refine (sibylref01_Bit.calls _ _ t296 x7_1 true _ ?side1 ?side2 A19.out).mono ?_); (case side1 => exact ca ((Kd.R_reads' HO_5.out).2.2)); (case side2 => exact (Kd.R_reads' HO_5.out).2.1); rintro e w' ⟨rfl, ⟨nd, rfl⟩⟩; refine ⟨_, rfl, ?_⟩))
       go_meet
       case rel => exact ⟨_, (x7_1), (by first | rfl | (simp; done) | (simp [*]; done)), H', ⟨by have := HK1.out; first | omega | exact Nat.le_refl _⟩, ⟨ra HO_5.out⟩, ⟨ra HO_6.out⟩, ⟨bl HB⟩⟩
      ·replace c20 := Bool.eq_false_iff.mpr c20
       subst c20
       have H1 : ((sibylref01_Bit.f t299 x7_1).bind fun t303 => (if t303 = true then (sibylref01_Common.j1 k1 t296 t299 x7_1) else (sibylref01_Common.l0 k1 t296 t299 (wrap64 (x7_1 + 1))))) = some r := by rw [if_neg (show ¬ (false = true) by decide)] at H; exact H
       clear H
       have H := H1
       clear H1
       obtain ⟨t303, A21, H⟩ := bindA H
       by_cases c22 : t303 = true
       ·subst c22
        have H1 : (sibylref01_Common.j1 k1 t296 t299 x7_1) = some r := by rw [if_pos rfl] at H; exact H
        clear H
        have H := H1
        clear H1
        have H' := Aside0.mk H
        clear H
        go_wp2_with (first | ((with_reducible refine gate_callee (f := 95) rfl ?_); refine goesM (some 22) rfl rfl Try.func95 (by kernel_rfl) rfl #[.slice Ao17 t296.length co17, .int .i64 x7_1] rfl (by rfl) ?_; (with_reducible refine (sibylref01_Bit.calls _ _ t296 x7_1 false _ ?side1 ?side2 A19.out).mono ?_); (case side1 => exact ca ((Kd.R_reads' HO_5.out).2.2)); (case side2 => exact (Kd.R_reads' HO_5.out).2.1); rintro e w' ⟨rfl, ⟨nd, rfl⟩⟩; refine ⟨_, rfl, ?_⟩) | (go_at_call 95; (with_reducible refine (sibylref01_Bit.calls _ _ t299 x7_1 true _ ?side1 ?side2 A21.out).mono ?_); (case side1 => exact ca ((Kd.R_reads' HO_6.out).2.2)); (case side2 => exact (Kd.R_reads' HO_6.out).2.1); rintro e w' ⟨rfl, ⟨nd, rfl⟩⟩))
        go_meet
        case rel => exact ⟨_, (x7_1), (by first | rfl | (simp; done) | (simp [*]; done)), H', ⟨by have := HK1.out; first | omega | exact Nat.le_refl _⟩, ⟨ra HO_5.out⟩, ⟨ra HO_6.out⟩, ⟨bl HB⟩⟩
       ·replace c22 := Bool.eq_false_iff.mpr c22
        subst c22
        have H1 : (sibylref01_Common.l0 k1 t296 t299 (wrap64 (x7_1 + 1))) = some r := by rw [if_neg (show ¬ (false = true) by decide)] at H; exact H
        clear H
        have H := H1
        clear H1
        have H' := Aside0.mk H
        clear H
        go_wp2_with (first | ((with_reducible refine gate_callee (f := 95) rfl ?_); refine goesM (some 22) rfl rfl Try.func95 (by kernel_rfl) rfl #[.slice Ao17 t296.length co17, .int .i64 x7_1] rfl (by rfl) ?_; (with_reducible refine (sibylref01_Bit.calls _ _ t296 x7_1 false _ ?side1 ?side2 A19.out).mono ?_); (case side1 => exact ca ((Kd.R_reads' HO_5.out).2.2)); (case side2 => exact (Kd.R_reads' HO_5.out).2.1); rintro e w' ⟨rfl, ⟨nd, rfl⟩⟩; refine ⟨_, rfl, ?_⟩) | (go_at_call 95; (with_reducible refine (sibylref01_Bit.calls _ _ t299 x7_1 false _ ?side1 ?side2 A21.out).mono ?_); (case side1 => exact ca ((Kd.R_reads' HO_6.out).2.2)); (case side2 => exact (Kd.R_reads' HO_6.out).2.1); rintro e w' ⟨rfl, ⟨nd, rfl⟩⟩))
        go_roundg k1
        case measure => have := HK1.out; omega
        case rel => exact ⟨(wrap64 (x7_1 + 1)), (by first | rfl | (simp; done) | (simp [*]; done)), H', ⟨by have := HK1.out; omega⟩, ⟨ra HO_5.out⟩, ⟨ra HO_6.out⟩, ⟨bl HB⟩⟩
   case rest =>
    clear HC14
    try clear c1
    try clear c2
    try clear p2
    try clear c5
    try clear c5b0
    try clear c5b1
    try clear c5b2
    try clear p6
    try clear c8
    try clear c9
    try clear c9b0
    try clear c9b1
    try clear c9b2
    try clear c20
    try clear c22
    try clear p2
    obtain ⟨kq, x7_13, rfl, HA, HJ13, HO_5, HO_6, HB⟩ := hcut
    cases kq with
    | zero => exact absurd HA.out (by simp [sibylref01_Common.j1])
    | succ kj13 =>
     have H := HA.out
     clear HA
     simp only [sibylref01_Common.j1] at H
     obtain ⟨t304, A23, H⟩ := bindA H
     obtain ⟨t307, A24, H⟩ := bindA H
     have H' := Aside0.mk H
     clear H
     go_wp2_with (first | ((with_reducible refine gate_callee (f := 87) rfl ?_); refine goesM (some 34) rfl rfl Try.func87 (by kernel_rfl) rfl #[.slice Ao17 t296.length co17, .int .i64 x7_13] rfl (by rfl) ?_; (with_reducible refine (sibylref01_Shr.calls kj13 _ _ t296 x7_13 t304 _ ?side1 ?side2 A23.out).mono ?_); (case side1 => exact ca ((Kd.R_reads' HO_5.out).2.2)); (case side2 => exact (Kd.R_reads' HO_5.out).2.1); rintro e w25 ⟨v305, rfl, ho0, hb⟩; refine ⟨_, rfl, ?_⟩; have n_ := mk4 (Kd.R_elder' (ra HO_5.out) (Kd.R_base ho0) hb) (Kd.R_elder' (ra HO_6.out) (Kd.R_base ho0) hb) (Kd.R_lower (Kd.R_new' (Kd.R_new' ho0 (Kd.R_lt (ra HO_5.out))) (Kd.R_lt (ra HO_6.out))) (below_size (bl HB))) (below_step (bl HB) hb); clear HO_5 HO_6 HB; obtain ⟨HO_5, HO_6, HO306, HB⟩ := n_; (try clear hb); (try clear hb2); (try clear hk); (try clear hi); (try clear ho0)) | ((with_reducible refine gate_callee (f := 87) rfl ?_); refine goesM (some 37) rfl rfl Try.func87 (by kernel_rfl) rfl #[.slice Ao18 t299.length co18, .int .i64 x7_13] rfl (by rfl) ?_; (with_reducible refine (sibylref01_Shr.calls kj13 _ _ t299 x7_13 t307 _ ?side1 ?side2 A24.out).mono ?_); (case side1 => exact ca ((Kd.R_reads' HO_6.out).2.2)); (case side2 => exact (Kd.R_reads' HO_6.out).2.1); rintro e w26 ⟨v308, rfl, ho0, hb⟩; refine ⟨_, rfl, ?_⟩; have n_ := mk5 (Kd.R_elder' (ra HO_5.out) (Kd.R_base ho0) hb) (Kd.R_elder' (ra HO_6.out) (Kd.R_base ho0) hb) (Kd.R_elder' (ra HO306.out) (Kd.R_base ho0) hb) (Kd.R_lower (Kd.R_new' (Kd.R_new' (Kd.R_new' ho0 (Kd.R_lt (ra HO_5.out))) (Kd.R_lt (ra HO_6.out))) (Kd.R_lt (ra HO306.out))) (below_size (bl HB))) (below_step (bl HB) hb); clear HO_5 HO_6 HO306 HB; obtain ⟨HO_5, HO_6, HO306, HO309, HB⟩ := n_; (try clear hb); (try clear hb2); (try clear hk); (try clear hi); (try clear ho0)))
     go_loopg [5, 6] kj13 (fun kq v5 v6 w' => ∃ (x5_2 : List Int) (x6_2 : List Int), Aside0 (sibylref01_Common.l1 kq x5_2 x6_2 x7_13 = some r) ∧ Aside0 (kq ≤ kj13) ∧ Aside0 (Kd.R (Kd.int .u32) 99 w' w.heap.size (fun k_ => some k_ ≠ (v6 : Value).ownBlock) v5 x5_2) ∧ Aside0 (Kd.R (Kd.int .u32) 99 w' w.heap.size (fun k_ => some k_ ≠ (v5 : Value).ownBlock) v6 x6_2) ∧ Aside0 (Below w.heap.size w w'))
     case atStart => exact ⟨(t304), (t307), H', ⟨Nat.le_refl _⟩, ⟨ra (Kd.R_mono HO306.out (fun _ hk => hk.2))⟩, ⟨ra (Kd.R_mono HO309.out (fun _ hk => hk.2))⟩, ⟨bl HB⟩⟩
     case round =>
      clear H'
      try clear c1
      try clear c2
      try clear p2
      try clear c5
      try clear c5b0
      try clear c5b1
      try clear c5b2
      try clear p6
      try clear c8
      try clear c9
      try clear c9b0
      try clear c9b1
      try clear c9b2
      try clear c20
      try clear c22
      try clear p2
      try clear p6
      obtain ⟨x5_2, x6_2, HA, HK2, HO_5, HO_6, HB⟩ := hrel
      cases gk with
      | zero => exact absurd HA.out (by simp [sibylref01_Common.l1])
      | succ k2 =>
       have H := HA.out
       clear HA
       simp only [sibylref01_Common.l1] at H
       have HC27 := Aside0.mk H
       clear H
       go_upto_region 10 with (fail)
       go_cut [45] (fun v45 wc => ∃ (kq : Nat) (x45_26 : Bool), v45 = .bool x45_26 ∧ Aside0 (sibylref01_Common.j3 kq x5_2 x6_2 x7_13 x45_26 = some r) ∧ Aside0 (kq ≤ k2) ∧ Aside0 (Kd.R (Kd.int .u32) 99 wc w.heap.size (fun k_ => some k_ ≠ (u6 : Value).ownBlock) u5 x5_2) ∧ Aside0 (Kd.R (Kd.int .u32) 99 wc w.heap.size (fun k_ => some k_ ≠ (u5 : Value).ownBlock) u6 x6_2) ∧ Aside0 (Below w.heap.size w wc))
       case first =>
        have H := HC27.out
        clear HC27
        by_cases c28 : (x5_2.length : Int) > 0
        ·rw [if_pos c28] at H
         have c28b0 : decide (0 < (x5_2.length : Int)) = true := decide_eq_true c28
         have c28b1 : decide (0 < x5_2.length) = true := decide_eq_true (by omega)
         clear c28
         (first | rw [c28b0] | (simp only [i64_w, i32_w]; rw [c28b0]) | skip)
         have H' := Aside0.mk H
         clear H
         obtain ⟨Ao29, co29, eo29⟩ := Kd.R_slice HO_5.out
         subst eo29
         obtain ⟨Ao30, co30, eo30⟩ := Kd.R_slice HO_6.out
         subst eo30
         go_wp2
         go_meet
         case rel => exact ⟨_, (decide ((x6_2.length : Int) > 0)), (by first | rfl | (simp; done) | (simp [*]; done)), H', ⟨by have := HJ13.out; have := HK2.out; first | omega | exact Nat.le_refl _⟩, ⟨ra HO_5.out⟩, ⟨ra HO_6.out⟩, ⟨bl HB⟩⟩
        ·rw [if_neg c28] at H
         have c28b0 : decide (0 < (x5_2.length : Int)) = false := decide_eq_false c28
         have c28b1 : decide (0 < x5_2.length) = false := decide_eq_false (by omega)
         clear c28
         (first | rw [c28b0] | (simp only [i64_w, i32_w]; rw [c28b0]) | skip)
         have H' := Aside0.mk H
         clear H
         obtain ⟨Ao31, co31, eo31⟩ := Kd.R_slice HO_5.out
         subst eo31
         go_wp2
         go_meet
         case rel => exact ⟨_, (false), (by first | rfl | (simp; done) | (simp [*]; done)), H', ⟨by have := HJ13.out; have := HK2.out; first | omega | exact Nat.le_refl _⟩, ⟨ra HO_5.out⟩, ⟨ra HO_6.out⟩, ⟨bl HB⟩⟩
       case rest =>
        clear HC27
        try clear c1
        try clear c2
        try clear p2
        try clear c5
        try clear c5b0
        try clear c5b1
        try clear c5b2
        try clear p6
        try clear c8
        try clear c9
        try clear c9b0
        try clear c9b1
        try clear c9b2
        try clear c20
        try clear c22
        try clear c28
        try clear c28b0
        try clear c28b1
        try clear p2
        try clear p6
        obtain ⟨kq, x45_26, rfl, HA, HJ26, HO_5, HO_6, HB⟩ := hcut
        cases kq with
        | zero => exact absurd HA.out (by simp [sibylref01_Common.j3])
        | succ kj26 =>
         have H := HA.out
         clear HA
         simp only [sibylref01_Common.j3] at H
         by_cases c32 : x45_26 = true
         ·subst c32
          have H1 : ((sibylref01_Bit.f x5_2 0).bind fun t316 => (if t316 = true then ((sibylref01_Bit.f x6_2 0).bind fun t317 => (if t317 = true then ((sibylref01_Cmp.f kj26 x5_2 x6_2).bind fun t318 => (if t318 ≥ 0 then ((sibylref01_Minus.f kj26 x5_2 x6_2).bind fun t319 => (sibylref01_Common.l1 kj26 t319 x6_2 x7_13)) else ((sibylref01_Minus.f kj26 x6_2 x5_2).bind fun t322 => (sibylref01_Common.l1 kj26 x5_2 t322 x7_13)))) else ((sibylref01_Shr.f kj26 x6_2 1).bind fun t325 => (sibylref01_Common.l1 kj26 x5_2 t325 x7_13)))) else ((sibylref01_Shr.f kj26 x5_2 1).bind fun t328 => (sibylref01_Common.l1 kj26 t328 x6_2 x7_13)))) = some r := by rw [if_pos rfl] at H; exact H
          clear H
          have H := H1
          clear H1
          obtain ⟨t316, A33, H⟩ := bindA H
          by_cases c34 : t316 = true
          ·subst c34
           have H1 : ((sibylref01_Bit.f x6_2 0).bind fun t317 => (if t317 = true then ((sibylref01_Cmp.f kj26 x5_2 x6_2).bind fun t318 => (if t318 ≥ 0 then ((sibylref01_Minus.f kj26 x5_2 x6_2).bind fun t319 => (sibylref01_Common.l1 kj26 t319 x6_2 x7_13)) else ((sibylref01_Minus.f kj26 x6_2 x5_2).bind fun t322 => (sibylref01_Common.l1 kj26 x5_2 t322 x7_13)))) else ((sibylref01_Shr.f kj26 x6_2 1).bind fun t325 => (sibylref01_Common.l1 kj26 x5_2 t325 x7_13)))) = some r := by rw [if_pos rfl] at H; exact H
           clear H
           have H := H1
           clear H1
           obtain ⟨t317, A35, H⟩ := bindA H
           by_cases c36 : t317 = true
           ·subst c36
            have H1 : ((sibylref01_Cmp.f kj26 x5_2 x6_2).bind fun t318 => (if t318 ≥ 0 then ((sibylref01_Minus.f kj26 x5_2 x6_2).bind fun t319 => (sibylref01_Common.l1 kj26 t319 x6_2 x7_13)) else ((sibylref01_Minus.f kj26 x6_2 x5_2).bind fun t322 => (sibylref01_Common.l1 kj26 x5_2 t322 x7_13)))) = some r := by rw [if_pos rfl] at H; exact H
            clear H
            have H := H1
            clear H1
            obtain ⟨t318, A37, H⟩ := bindA H
            by_cases c38 : t318 ≥ 0
            ·rw [if_pos c38] at H
             have c38b0 : decide (0 ≤ t318) = true := decide_eq_true c38
             clear c38
             obtain ⟨t319, A39, H⟩ := bindA H
             have H' := Aside0.mk H
             clear H
             obtain ⟨Ao40, co40, eo40⟩ := Kd.R_slice HO_5.out
             subst eo40
             go_wp2_with (first | ((with_reducible refine gate_callee (f := 95) rfl ?_); refine goesM (some 47) rfl rfl Try.func95 (by kernel_rfl) rfl #[.slice Ao40 x5_2.length co40, .int .i64 0] rfl (by rfl) ?_; (with_reducible refine (sibylref01_Bit.calls _ _ x5_2 0 true _ ?side1 ?side2 A33.out).mono ?_); (case side1 => exact ca ((Kd.R_reads' HO_5.out).2.2)); (case side2 => exact (Kd.R_reads' HO_5.out).2.1); rintro e w' ⟨rfl, ⟨nd, rfl⟩⟩; refine ⟨_, rfl, ?_⟩; obtain ⟨Ao41, co41, eo41⟩ := Kd.R_slice HO_6.out; subst eo41) | ((with_reducible refine gate_callee (f := 95) rfl ?_); refine goesM (some 52) rfl rfl Try.func95 (by kernel_rfl) rfl #[.slice Ao41 x6_2.length co41, .int .i64 0] rfl (by rfl) ?_; (with_reducible refine (sibylref01_Bit.calls _ _ x6_2 0 true _ ?side1 ?side2 A35.out).mono ?_); (case side1 => exact ca ((Kd.R_reads' HO_6.out).2.2)); (case side2 => exact (Kd.R_reads' HO_6.out).2.1); rintro e w' ⟨rfl, ⟨nd, rfl⟩⟩; refine ⟨_, rfl, ?_⟩) | ((with_reducible refine gate_callee (f := 70) rfl ?_); refine goesM (some 58) rfl rfl Try.func70 (by kernel_rfl) rfl #[.slice Ao40 x5_2.length co40, .slice Ao41 x6_2.length co41] rfl (by rfl) ?_; (with_reducible refine (sibylref01_Cmp.calls kj26 _ _ x5_2 _ _ x6_2 t318 _ ?side1 ?side2 ?side3 ?side4 A37.out).mono ?_); (case side1 => exact ca ((Kd.R_reads' HO_5.out).2.2)); (case side2 => exact (Kd.R_reads' HO_5.out).2.1); (case side3 => exact ca ((Kd.R_reads' HO_6.out).2.2)); (case side4 => exact (Kd.R_reads' HO_6.out).2.1); rintro e w42 ⟨rfl, hb⟩; refine ⟨_, rfl, ?_⟩; have n_ := mk3 (Kd.R_below (ra HO_5.out) hb) (Kd.R_below (ra HO_6.out) hb) (below_step (bl HB) hb); clear HO_5 HO_6 HB; obtain ⟨HO_5, HO_6, HB⟩ := n_; (try clear hb); (try clear hb2); (try clear hk); (try clear hi)) | ((with_reducible refine gate_callee (f := 71) rfl ?_); refine goesM (some 62) rfl rfl Try.func71 (by kernel_rfl) rfl #[.slice Ao40 x5_2.length co40, .slice Ao41 x6_2.length co41] rfl (by rfl) ?_; (with_reducible refine (sibylref01_Minus.calls kj26 _ _ x5_2 _ _ x6_2 t319 _ ?side1 ?side2 ?side3 ?side4 A39.out).mono ?_); (case side1 => exact ca ((Kd.R_reads' HO_5.out).2.2)); (case side2 => exact (Kd.R_reads' HO_5.out).2.1); (case side3 => exact ca ((Kd.R_reads' HO_6.out).2.2)); (case side4 => exact (Kd.R_reads' HO_6.out).2.1); rintro e w43 ⟨v320, rfl, ho0, hb⟩; refine ⟨_, rfl, ?_⟩; have n_ := mk4 (Kd.R_elder' (ra HO_5.out) (Kd.R_base ho0) hb) (Kd.R_elder' (ra HO_6.out) (Kd.R_base ho0) hb) (Kd.R_lower (Kd.R_new' (Kd.R_new' ho0 (Kd.R_lt (ra HO_5.out))) (Kd.R_lt (ra HO_6.out))) (below_size (bl HB))) (below_step (bl HB) hb); clear HO_5 HO_6 HB; obtain ⟨HO_5, HO_6, HO321, HB⟩ := n_; (try clear hb); (try clear hb2); (try clear hk); (try clear hi); (try clear ho0)))
             go_roundg kj26
             case measure => have := HJ13.out; have := HK2.out; have := HJ26.out; omega
             case rel => exact ⟨(t319), (x6_2), H', ⟨by have := HJ13.out; have := HK2.out; have := HJ26.out; omega⟩, ⟨ra (Kd.R_mono HO321.out (fun _ hk => hk.2))⟩, ⟨ra (Kd.R_mono HO_6.out (fun _ hk => hk.2))⟩, ⟨bl HB⟩⟩
            ·rw [if_neg c38] at H
             have c38b0 : decide (0 ≤ t318) = false := decide_eq_false c38
             clear c38
             obtain ⟨t322, A44, H⟩ := bindA H
             have H' := Aside0.mk H
             clear H
             obtain ⟨Ao45, co45, eo45⟩ := Kd.R_slice HO_5.out
             subst eo45
             go_wp2_with (first | ((with_reducible refine gate_callee (f := 95) rfl ?_); refine goesM (some 47) rfl rfl Try.func95 (by kernel_rfl) rfl #[.slice Ao45 x5_2.length co45, .int .i64 0] rfl (by rfl) ?_; (with_reducible refine (sibylref01_Bit.calls _ _ x5_2 0 true _ ?side1 ?side2 A33.out).mono ?_); (case side1 => exact ca ((Kd.R_reads' HO_5.out).2.2)); (case side2 => exact (Kd.R_reads' HO_5.out).2.1); rintro e w' ⟨rfl, ⟨nd, rfl⟩⟩; refine ⟨_, rfl, ?_⟩; obtain ⟨Ao46, co46, eo46⟩ := Kd.R_slice HO_6.out; subst eo46) | ((with_reducible refine gate_callee (f := 95) rfl ?_); refine goesM (some 52) rfl rfl Try.func95 (by kernel_rfl) rfl #[.slice Ao46 x6_2.length co46, .int .i64 0] rfl (by rfl) ?_; (with_reducible refine (sibylref01_Bit.calls _ _ x6_2 0 true _ ?side1 ?side2 A35.out).mono ?_); (case side1 => exact ca ((Kd.R_reads' HO_6.out).2.2)); (case side2 => exact (Kd.R_reads' HO_6.out).2.1); rintro e w' ⟨rfl, ⟨nd, rfl⟩⟩; refine ⟨_, rfl, ?_⟩) | ((with_reducible refine gate_callee (f := 70) rfl ?_); refine goesM (some 58) rfl rfl Try.func70 (by kernel_rfl) rfl #[.slice Ao45 x5_2.length co45, .slice Ao46 x6_2.length co46] rfl (by rfl) ?_; (with_reducible refine (sibylref01_Cmp.calls kj26 _ _ x5_2 _ _ x6_2 t318 _ ?side1 ?side2 ?side3 ?side4 A37.out).mono ?_); (case side1 => exact ca ((Kd.R_reads' HO_5.out).2.2)); (case side2 => exact (Kd.R_reads' HO_5.out).2.1); (case side3 => exact ca ((Kd.R_reads' HO_6.out).2.2)); (case side4 => exact (Kd.R_reads' HO_6.out).2.1); rintro e w47 ⟨rfl, hb⟩; refine ⟨_, rfl, ?_⟩; have n_ := mk3 (Kd.R_below (ra HO_5.out) hb) (Kd.R_below (ra HO_6.out) hb) (below_step (bl HB) hb); clear HO_5 HO_6 HB; obtain ⟨HO_5, HO_6, HB⟩ := n_; (try clear hb); (try clear hb2); (try clear hk); (try clear hi)) | ((with_reducible refine gate_callee (f := 71) rfl ?_); refine goesM (some 65) rfl rfl Try.func71 (by kernel_rfl) rfl #[.slice Ao46 x6_2.length co46, .slice Ao45 x5_2.length co45] rfl (by rfl) ?_; (with_reducible refine (sibylref01_Minus.calls kj26 _ _ x6_2 _ _ x5_2 t322 _ ?side1 ?side2 ?side3 ?side4 A44.out).mono ?_); (case side1 => exact ca ((Kd.R_reads' HO_6.out).2.2)); (case side2 => exact (Kd.R_reads' HO_6.out).2.1); (case side3 => exact ca ((Kd.R_reads' HO_5.out).2.2)); (case side4 => exact (Kd.R_reads' HO_5.out).2.1); rintro e w48 ⟨v323, rfl, ho0, hb⟩; refine ⟨_, rfl, ?_⟩; have n_ := mk4 (Kd.R_elder' (ra HO_5.out) (Kd.R_base ho0) hb) (Kd.R_elder' (ra HO_6.out) (Kd.R_base ho0) hb) (Kd.R_lower (Kd.R_new' (Kd.R_new' ho0 (Kd.R_lt (ra HO_5.out))) (Kd.R_lt (ra HO_6.out))) (below_size (bl HB))) (below_step (bl HB) hb); clear HO_5 HO_6 HB; obtain ⟨HO_5, HO_6, HO324, HB⟩ := n_; (try clear hb); (try clear hb2); (try clear hk); (try clear hi); (try clear ho0)))
             go_roundg kj26
             case measure => have := HJ13.out; have := HK2.out; have := HJ26.out; omega
             case rel => exact ⟨(x5_2), (t322), H', ⟨by have := HJ13.out; have := HK2.out; have := HJ26.out; omega⟩, ⟨ra (Kd.R_mono HO_5.out (fun _ hk => hk.2))⟩, ⟨ra (Kd.R_mono HO324.out (fun _ hk => hk.1.2))⟩, ⟨bl HB⟩⟩
           ·replace c36 := Bool.eq_false_iff.mpr c36
            subst c36
            have H1 : ((sibylref01_Shr.f kj26 x6_2 1).bind fun t325 => (sibylref01_Common.l1 kj26 x5_2 t325 x7_13)) = some r := by rw [if_neg (show ¬ (false = true) by decide)] at H; exact H
            clear H
            have H := H1
            clear H1
            obtain ⟨t325, A49, H⟩ := bindA H
            have H' := Aside0.mk H
            clear H
            obtain ⟨Ao50, co50, eo50⟩ := Kd.R_slice HO_5.out
            subst eo50
            go_wp2_with (first | ((with_reducible refine gate_callee (f := 95) rfl ?_); refine goesM (some 47) rfl rfl Try.func95 (by kernel_rfl) rfl #[.slice Ao50 x5_2.length co50, .int .i64 0] rfl (by rfl) ?_; (with_reducible refine (sibylref01_Bit.calls _ _ x5_2 0 true _ ?side1 ?side2 A33.out).mono ?_); (case side1 => exact ca ((Kd.R_reads' HO_5.out).2.2)); (case side2 => exact (Kd.R_reads' HO_5.out).2.1); rintro e w' ⟨rfl, ⟨nd, rfl⟩⟩; refine ⟨_, rfl, ?_⟩; obtain ⟨Ao51, co51, eo51⟩ := Kd.R_slice HO_6.out; subst eo51) | ((with_reducible refine gate_callee (f := 95) rfl ?_); refine goesM (some 52) rfl rfl Try.func95 (by kernel_rfl) rfl #[.slice Ao51 x6_2.length co51, .int .i64 0] rfl (by rfl) ?_; (with_reducible refine (sibylref01_Bit.calls _ _ x6_2 0 false _ ?side1 ?side2 A35.out).mono ?_); (case side1 => exact ca ((Kd.R_reads' HO_6.out).2.2)); (case side2 => exact (Kd.R_reads' HO_6.out).2.1); rintro e w' ⟨rfl, ⟨nd, rfl⟩⟩; refine ⟨_, rfl, ?_⟩) | ((with_reducible refine gate_callee (f := 87) rfl ?_); refine goesM (some 55) rfl rfl Try.func87 (by kernel_rfl) rfl #[.slice Ao51 x6_2.length co51, .int .i64 1] rfl (by rfl) ?_; (with_reducible refine (sibylref01_Shr.calls kj26 _ _ x6_2 1 t325 _ ?side1 ?side2 A49.out).mono ?_); (case side1 => exact ca ((Kd.R_reads' HO_6.out).2.2)); (case side2 => exact (Kd.R_reads' HO_6.out).2.1); rintro e w52 ⟨v326, rfl, ho0, hb⟩; refine ⟨_, rfl, ?_⟩; have n_ := mk4 (Kd.R_elder' (ra HO_5.out) (Kd.R_base ho0) hb) (Kd.R_elder' (ra HO_6.out) (Kd.R_base ho0) hb) (Kd.R_lower (Kd.R_new' (Kd.R_new' ho0 (Kd.R_lt (ra HO_5.out))) (Kd.R_lt (ra HO_6.out))) (below_size (bl HB))) (below_step (bl HB) hb); clear HO_5 HO_6 HB; obtain ⟨HO_5, HO_6, HO327, HB⟩ := n_; (try clear hb); (try clear hb2); (try clear hk); (try clear hi); (try clear ho0)))
            go_roundg kj26
            case measure => have := HJ13.out; have := HK2.out; have := HJ26.out; omega
            case rel => exact ⟨(x5_2), (t325), H', ⟨by have := HJ13.out; have := HK2.out; have := HJ26.out; omega⟩, ⟨ra (Kd.R_mono HO_5.out (fun _ hk => hk.2))⟩, ⟨ra (Kd.R_mono HO327.out (fun _ hk => hk.1.2))⟩, ⟨bl HB⟩⟩
          ·replace c34 := Bool.eq_false_iff.mpr c34
           subst c34
           have H1 : ((sibylref01_Shr.f kj26 x5_2 1).bind fun t328 => (sibylref01_Common.l1 kj26 t328 x6_2 x7_13)) = some r := by rw [if_neg (show ¬ (false = true) by decide)] at H; exact H
           clear H
           have H := H1
           clear H1
           obtain ⟨t328, A53, H⟩ := bindA H
           have H' := Aside0.mk H
           clear H
           obtain ⟨Ao54, co54, eo54⟩ := Kd.R_slice HO_5.out
           subst eo54
           go_wp2_with (first | ((with_reducible refine gate_callee (f := 95) rfl ?_); refine goesM (some 47) rfl rfl Try.func95 (by kernel_rfl) rfl #[.slice Ao54 x5_2.length co54, .int .i64 0] rfl (by rfl) ?_; (with_reducible refine (sibylref01_Bit.calls _ _ x5_2 0 false _ ?side1 ?side2 A33.out).mono ?_); (case side1 => exact ca ((Kd.R_reads' HO_5.out).2.2)); (case side2 => exact (Kd.R_reads' HO_5.out).2.1); rintro e w' ⟨rfl, ⟨nd, rfl⟩⟩; refine ⟨_, rfl, ?_⟩) | ((with_reducible refine gate_callee (f := 87) rfl ?_); refine goesM (some 50) rfl rfl Try.func87 (by kernel_rfl) rfl #[.slice Ao54 x5_2.length co54, .int .i64 1] rfl (by rfl) ?_; (with_reducible refine (sibylref01_Shr.calls kj26 _ _ x5_2 1 t328 _ ?side1 ?side2 A53.out).mono ?_); (case side1 => exact ca ((Kd.R_reads' HO_5.out).2.2)); (case side2 => exact (Kd.R_reads' HO_5.out).2.1); rintro e w55 ⟨v329, rfl, ho0, hb⟩; refine ⟨_, rfl, ?_⟩; have n_ := mk4 (Kd.R_elder' (ra HO_5.out) (Kd.R_base ho0) hb) (Kd.R_elder' (ra HO_6.out) (Kd.R_base ho0) hb) (Kd.R_lower (Kd.R_new' (Kd.R_new' ho0 (Kd.R_lt (ra HO_5.out))) (Kd.R_lt (ra HO_6.out))) (below_size (bl HB))) (below_step (bl HB) hb); clear HO_5 HO_6 HB; obtain ⟨HO_5, HO_6, HO330, HB⟩ := n_; (try clear hb); (try clear hb2); (try clear hk); (try clear hi); (try clear ho0)))
           go_roundg kj26
           case measure => have := HJ13.out; have := HK2.out; have := HJ26.out; omega
           case rel => exact ⟨(t328), (x6_2), H', ⟨by have := HJ13.out; have := HK2.out; have := HJ26.out; omega⟩, ⟨ra (Kd.R_mono HO330.out (fun _ hk => hk.2))⟩, ⟨ra (Kd.R_mono HO_6.out (fun _ hk => hk.2))⟩, ⟨bl HB⟩⟩
         ·replace c32 := Bool.eq_false_iff.mpr c32
          subst c32
          have H1 : ((sibylref01_Plus.f kj26 x5_2 x6_2).bind fun t310 => ((sibylref01_Shl.f kj26 t310 x7_13).bind fun t313 => (some t313))) = some r := by rw [if_neg (show ¬ (false = true) by decide)] at H; exact H
          clear H
          have H := H1
          clear H1
          obtain ⟨t310, A56, H⟩ := bindA H
          obtain ⟨t313, A57, H⟩ := bindA H
          obtain rfl := Option.some.inj H
          obtain ⟨Ao58, co58, eo58⟩ := Kd.R_slice HO_5.out
          subst eo58
          obtain ⟨Ao59, co59, eo59⟩ := Kd.R_slice HO_6.out
          subst eo59
          go_wp2_with (first | ((with_reducible refine gate_callee (f := 72) rfl ?_); refine goesM (some 68) rfl rfl Try.func72 (by kernel_rfl) rfl #[.slice Ao58 x5_2.length co58, .slice Ao59 x6_2.length co59] rfl (by rfl) ?_; (with_reducible refine (sibylref01_Plus.calls kj26 _ _ x5_2 _ _ x6_2 t310 _ ?side1 ?side2 ?side3 ?side4 A56.out).mono ?_); (case side1 => exact ca ((Kd.R_reads' HO_5.out).2.2)); (case side2 => exact (Kd.R_reads' HO_5.out).2.1); (case side3 => exact ca ((Kd.R_reads' HO_6.out).2.2)); (case side4 => exact (Kd.R_reads' HO_6.out).2.1); rintro e w60 ⟨v311, rfl, ho0, hb⟩; refine ⟨_, rfl, ?_⟩; have n_ := mk4 (Kd.R_elder' (ra HO_5.out) (Kd.R_base ho0) hb) (Kd.R_elder' (ra HO_6.out) (Kd.R_base ho0) hb) (Kd.R_lower (Kd.R_new' (Kd.R_new' ho0 (Kd.R_lt (ra HO_5.out))) (Kd.R_lt (ra HO_6.out))) (below_size (bl HB))) (below_step (bl HB) hb); clear HO_5 HO_6 HB; obtain ⟨HO_5, HO_6, HO312, HB⟩ := n_; (try clear hb); (try clear hb2); (try clear hk); (try clear hi); (try clear ho0); obtain ⟨Ao61, co61, eo61⟩ := Kd.R_slice HO312.out; subst eo61) | ((with_reducible refine gate_callee (f := 69) rfl ?_); refine goesM (some 70) rfl rfl Try.func69 (by kernel_rfl) rfl #[.slice Ao61 t310.length co61, .int .i64 x7_13] rfl (by rfl) ?_; (with_reducible refine (sibylref01_Shl.calls kj26 _ _ t310 x7_13 t313 _ ?side1 ?side2 A57.out).mono ?_); (case side1 => exact ca ((Kd.R_reads' HO312.out).2.2)); (case side2 => exact (Kd.R_reads' HO312.out).2.1); rintro e w62 ⟨v314, rfl, ho0, hb⟩; refine ⟨_, rfl, ?_⟩; have n_ := mk5 (Kd.R_elder' (ra HO_5.out) (Kd.R_base ho0) hb) (Kd.R_elder' (ra HO_6.out) (Kd.R_base ho0) hb) (Kd.R_elder' (ra HO312.out) (Kd.R_base ho0) hb) (Kd.R_lower (Kd.R_new' (Kd.R_new' (Kd.R_new' ho0 (Kd.R_lt (ra HO_5.out))) (Kd.R_lt (ra HO_6.out))) (Kd.R_lt (ra HO312.out))) (below_size (bl HB))) (below_step (bl HB) hb); clear HO_5 HO_6 HO312 HB; obtain ⟨HO_5, HO_6, HO312, HO315, HB⟩ := n_; (try clear hb); (try clear hb2); (try clear hk); (try clear hi); (try clear ho0)))
          go_ret
          exact ⟨_, by first | rfl | simp [*], ra (Kd.R_mono HO315.out (fun _ hk => trivial)), bl HB⟩
def sibylref02_Form.j0 : Nat → Bool → Bool → List Int → List Int → Option (Bool)
 | 0, _, _, _, _ => none
 | k + 1, x28, x332000, x332001, x332002 => if x28 = true then (some false) else ((sibylref01_Common.f k x332001 x332002).bind fun t334 => ((sibylref01_Same.f k t334 (([1] : List Int))).bind fun t340 => (some t340)))
def sibylref02_Form.f (k : Nat) (a0_0 : Bool) (l0_1 : List Int) (l0_2 : List Int) : Option (Bool) := (sibylref01_Form.f l0_1).bind fun t332 => (if t332 = true then ((sibylref01_Form.f l0_2).bind fun t333 => (if t333 = true then (if (l0_2.length : Int) = 0 then (sibylref02_Form.j0 k true a0_0 l0_1 l0_2) else (if a0_0 = true then (sibylref02_Form.j0 k ((l0_1.length : Int) == 0) a0_0 l0_1 l0_2) else (sibylref02_Form.j0 k false a0_0 l0_1 l0_2))) else (sibylref02_Form.j0 k true a0_0 l0_1 l0_2))) else (sibylref02_Form.j0 k true a0_0 l0_1 l0_2))
set_option maxHeartbeats 8000000 in
set_option maxRecDepth 100000 in
theorem sibylref02_Form.calls (k : Nat) (a0_0 : Bool) (A0_1 : Option Addr) (c0_1 : Nat) (l0_1 : List Int) (A0_2 : Option Addr) (c0_2 : Nat) (l0_2 : List Int) (r : Bool) (w : World) (hr0_1 : Kd.C (Kd.int .u32) w A0_1 l0_1.length l0_1) (hc0_1 : l0_1.length ≤ c0_1) (hr0_2 : Kd.C (Kd.int .u32) w A0_2 l0_2.length l0_2) (hc0_2 : l0_2.length ≤ c0_2) (h : sibylref02_Form.f k a0_0 l0_1 l0_2 = some r) :
  Calls Try.prog 53 #[.agg #[.bool a0_0, .slice A0_1 l0_1.length c0_1, .slice A0_2 l0_2.length c0_2]] w fun e w' => e = .returned (.bool r) ∧ Below w.heap.size w w' := by
 have hu36 := Try.underlying36
 have HR0_1 := Aside0.mk hr0_1
 have HC0_1 := Aside0.mk hc0_1
 clear hr0_1 hc0_1
 have HR0_2 := Aside0.mk hr0_2
 have HC0_2 := Aside0.mk hc0_2
 clear hr0_2 hc0_2
 have HB := Aside0.mk (Below.refl w.heap.size w)
 have H : ((sibylref01_Form.f l0_1).bind fun t332 => (if t332 = true then ((sibylref01_Form.f l0_2).bind fun t333 => (if t333 = true then (if (l0_2.length : Int) = 0 then (sibylref02_Form.j0 k true a0_0 l0_1 l0_2) else (if a0_0 = true then (sibylref02_Form.j0 k ((l0_1.length : Int) == 0) a0_0 l0_1 l0_2) else (sibylref02_Form.j0 k false a0_0 l0_1 l0_2))) else (sibylref02_Form.j0 k true a0_0 l0_1 l0_2))) else (sibylref02_Form.j0 k true a0_0 l0_1 l0_2))) = some r := h
 clear h
 have HC2 := Aside0.mk H
 clear H
 go_enter Try.func53, Try.ntmps53
 go_upto_region 1 with (first | ((with_reducible refine gate_dst (N := 1) rfl ?_); (try (refine gate_guard (by rfl) ?_; dsimp only)); refine box_event ?hg (N := 1) ?hd (cs := #[.bool a0_0, .slice A0_1 l0_1.length c0_1, .slice A0_2 l0_2.length c0_2]) (t := 36) ?hr ?_; (case hd => rfl); (case hg => rfl); (case hr => first | (go_simp; done) | (go_simp; rfl)); intro gb331 hg w3 hbox hb; have n_ := mk4 (below_step (bl HB) hb) (hbox) ((by rw [hg]; exact (below_size (bl HB)) : w.heap.size ≤ gb331)) ((by rw [hg]; exact (below_size (bl HB)) : w.heap.size ≤ gb331)); clear HB; obtain ⟨HB, BK331, GW331, GE331⟩ := n_; clear hb hbox hg))
 (try simp only [Act.put, List.setIfInBounds_toArray, List.set_cons_zero, List.set_cons_succ])
 go_cut [28] (fun v28 wc => ∃ (kq : Nat) (x28_1 : Bool), v28 = .bool x28_1 ∧ Aside0 (sibylref02_Form.j0 kq x28_1 a0_0 l0_1 l0_2 = some r) ∧ Aside0 (kq ≤ k) ∧ Aside0 (wc.heap[gb331]? = some (.cells #[.bool a0_0, (.slice A0_1 l0_1.length c0_1), (.slice A0_2 l0_2.length c0_2)] 36 (0, 0))) ∧ Aside0 (Below w.heap.size w wc))
 case first =>
  have H := HC2.out
  clear HC2
  obtain ⟨t332, A4, H⟩ := bindA H
  by_cases c5 : t332 = true
  ·subst c5
   have H1 : ((sibylref01_Form.f l0_2).bind fun t333 => (if t333 = true then (if (l0_2.length : Int) = 0 then (sibylref02_Form.j0 k true a0_0 l0_1 l0_2) else (if a0_0 = true then (sibylref02_Form.j0 k ((l0_1.length : Int) == 0) a0_0 l0_1 l0_2) else (sibylref02_Form.j0 k false a0_0 l0_1 l0_2))) else (sibylref02_Form.j0 k true a0_0 l0_1 l0_2))) = some r := by rw [if_pos rfl] at H; exact H
   clear H
   have H := H1
   clear H1
   obtain ⟨t333, A6, H⟩ := bindA H
   by_cases c7 : t333 = true
   ·subst c7
    have H1 : (if (l0_2.length : Int) = 0 then (sibylref02_Form.j0 k true a0_0 l0_1 l0_2) else (if a0_0 = true then (sibylref02_Form.j0 k ((l0_1.length : Int) == 0) a0_0 l0_1 l0_2) else (sibylref02_Form.j0 k false a0_0 l0_1 l0_2))) = some r := by rw [if_pos rfl] at H; exact H
    clear H
    have H := H1
    clear H1
    by_cases c8 : (l0_2.length : Int) = 0
    ·rw [if_pos c8] at H
     have c8b0 : ((l0_2.length : Int) == 0) = true := beq_iff_eq.mpr c8
     have c8b1 : ((l0_2.length : Int) != 0) = false := bne_eq_false_iff_eq.mpr c8
     clear c8
     (first | rw [c8b0] | (simp only [i64_w, i32_w]; rw [c8b0]) | skip)
     have H' := Aside0.mk H
     clear H
     have hcz9_0 : w3.cell? ⟨gb331, 0, none⟩ = some (.bool a0_0) := (blk_cell BK331.out 0).trans rfl
     have hcz9_1 : w3.cell? ⟨gb331, 1, none⟩ = some (.slice A0_1 l0_1.length c0_1) := (blk_cell BK331.out 1).trans rfl
     have hcz9_2 : w3.cell? ⟨gb331, 2, none⟩ = some (.slice A0_2 l0_2.length c0_2) := (blk_cell BK331.out 2).trans rfl
     have hfz9_0 := blk_frozen BK331.out 0
     have hfz9_1 := blk_frozen BK331.out 1
     have hfz9_2 := blk_frozen BK331.out 2
     go_wp2_with (first | ((with_reducible refine gate_callee (f := 80) rfl ?_); refine goesM (some 5) rfl rfl Try.func80 (by kernel_rfl) rfl #[.slice A0_1 l0_1.length c0_1] rfl (by rfl) ?_; (with_reducible refine (sibylref01_Form.calls _ _ l0_1 true _ ?side1 ?side2 A4.out).mono ?_); (case side1 => exact ca (Kd.C_below HR0_1.out HB.out)); (case side2 => exact HC0_1.out); rintro e w' ⟨rfl, ⟨nd, rfl⟩⟩; refine ⟨_, rfl, ?_⟩) | (go_at_call 80; (with_reducible refine (sibylref01_Form.calls _ _ l0_2 true _ ?side1 ?side2 A6.out).mono ?_); (case side1 => exact (Kd.C_below HR0_2.out (bl1 HB GE331))); (case side2 => exact HC0_2.out); rintro e w' ⟨rfl, ⟨nd, rfl⟩⟩))
     go_meet
     case rel => exact ⟨_, (true), (by first | rfl | (simp; done) | (simp [*]; done)), H', ⟨by first | omega | exact Nat.le_refl _⟩, ⟨ba BK331.out⟩, ⟨bl1 HB GE331⟩⟩
    ·rw [if_neg c8] at H
     have c8b0 : ((l0_2.length : Int) == 0) = false := beq_eq_false_iff_ne.mpr c8
     have c8b1 : ((l0_2.length : Int) != 0) = true := bne_iff_ne.mpr c8
     have c8b2 : ¬ (l0_2 = []) := fun h_ => c8 (by rw [h_]; rfl)
     (first | rw [c8b0] | (simp only [i64_w, i32_w]; rw [c8b0]) | skip)
     by_cases c10 : a0_0 = true
     ·subst c10
      have H1 : (sibylref02_Form.j0 k ((l0_1.length : Int) == 0) true l0_1 l0_2) = some r := by rw [if_pos rfl] at H; exact H
      clear H
      have H := H1
      clear H1
      have H' := Aside0.mk H
      clear H
      have hcz11_0 : w3.cell? ⟨gb331, 0, none⟩ = some (.bool true) := (blk_cell BK331.out 0).trans rfl
      have hcz11_1 : w3.cell? ⟨gb331, 1, none⟩ = some (.slice A0_1 l0_1.length c0_1) := (blk_cell BK331.out 1).trans rfl
      have hcz11_2 : w3.cell? ⟨gb331, 2, none⟩ = some (.slice A0_2 l0_2.length c0_2) := (blk_cell BK331.out 2).trans rfl
      have hfz11_0 := blk_frozen BK331.out 0
      have hfz11_1 := blk_frozen BK331.out 1
      have hfz11_2 := blk_frozen BK331.out 2
      go_wp2_with (first | ((with_reducible refine gate_callee (f := 80) rfl ?_); refine goesM (some 5) rfl rfl Try.func80 (by kernel_rfl) rfl #[.slice A0_1 l0_1.length c0_1] rfl (by rfl) ?_; (with_reducible refine (sibylref01_Form.calls _ _ l0_1 true _ ?side1 ?side2 A4.out).mono ?_); (case side1 => exact ca (Kd.C_below HR0_1.out HB.out)); (case side2 => exact HC0_1.out); rintro e w' ⟨rfl, ⟨nd, rfl⟩⟩; refine ⟨_, rfl, ?_⟩) | (go_at_call 80; (with_reducible refine (sibylref01_Form.calls _ _ l0_2 true _ ?side1 ?side2 A6.out).mono ?_); (case side1 => exact (Kd.C_below HR0_2.out (bl1 HB GE331))); (case side2 => exact HC0_2.out); rintro e w' ⟨rfl, ⟨nd, rfl⟩⟩))
      go_meet
      case rel => exact ⟨_, (((l0_1.length : Int) == 0)), (by first | rfl | (simp; done) | (simp [*]; done)), H', ⟨by first | omega | exact Nat.le_refl _⟩, ⟨ba BK331.out⟩, ⟨bl1 HB GE331⟩⟩
     ·replace c10 := Bool.eq_false_iff.mpr c10
      subst c10
      have H1 : (sibylref02_Form.j0 k false false l0_1 l0_2) = some r := by rw [if_neg (show ¬ (false = true) by decide)] at H; exact H
      clear H
      have H := H1
      clear H1
      have H' := Aside0.mk H
      clear H
      have hcz12_0 : w3.cell? ⟨gb331, 0, none⟩ = some (.bool false) := (blk_cell BK331.out 0).trans rfl
      have hcz12_1 : w3.cell? ⟨gb331, 1, none⟩ = some (.slice A0_1 l0_1.length c0_1) := (blk_cell BK331.out 1).trans rfl
      have hcz12_2 : w3.cell? ⟨gb331, 2, none⟩ = some (.slice A0_2 l0_2.length c0_2) := (blk_cell BK331.out 2).trans rfl
      have hfz12_0 := blk_frozen BK331.out 0
      have hfz12_1 := blk_frozen BK331.out 1
      have hfz12_2 := blk_frozen BK331.out 2
      go_wp2_with (first | ((with_reducible refine gate_callee (f := 80) rfl ?_); refine goesM (some 5) rfl rfl Try.func80 (by kernel_rfl) rfl #[.slice A0_1 l0_1.length c0_1] rfl (by rfl) ?_; (with_reducible refine (sibylref01_Form.calls _ _ l0_1 true _ ?side1 ?side2 A4.out).mono ?_); (case side1 => exact ca (Kd.C_below HR0_1.out HB.out)); (case side2 => exact HC0_1.out); rintro e w' ⟨rfl, ⟨nd, rfl⟩⟩; refine ⟨_, rfl, ?_⟩) | (go_at_call 80; (with_reducible refine (sibylref01_Form.calls _ _ l0_2 true _ ?side1 ?side2 A6.out).mono ?_); (case side1 => exact (Kd.C_below HR0_2.out (bl1 HB GE331))); (case side2 => exact HC0_2.out); rintro e w' ⟨rfl, ⟨nd, rfl⟩⟩))
      go_meet
      case rel => exact ⟨_, (false), (by first | rfl | (simp; done) | (simp [*]; done)), H', ⟨by first | omega | exact Nat.le_refl _⟩, ⟨ba BK331.out⟩, ⟨bl1 HB GE331⟩⟩
   ·replace c7 := Bool.eq_false_iff.mpr c7
    subst c7
    have H1 : (sibylref02_Form.j0 k true a0_0 l0_1 l0_2) = some r := by rw [if_neg (show ¬ (false = true) by decide)] at H; exact H
    clear H
    have H := H1
    clear H1
    have H' := Aside0.mk H
    clear H
    have hcz13_0 : w3.cell? ⟨gb331, 0, none⟩ = some (.bool a0_0) := (blk_cell BK331.out 0).trans rfl
    have hcz13_1 : w3.cell? ⟨gb331, 1, none⟩ = some (.slice A0_1 l0_1.length c0_1) := (blk_cell BK331.out 1).trans rfl
    have hcz13_2 : w3.cell? ⟨gb331, 2, none⟩ = some (.slice A0_2 l0_2.length c0_2) := (blk_cell BK331.out 2).trans rfl
    have hfz13_0 := blk_frozen BK331.out 0
    have hfz13_1 := blk_frozen BK331.out 1
    have hfz13_2 := blk_frozen BK331.out 2
    go_wp2_with (first | ((with_reducible refine gate_callee (f := 80) rfl ?_); refine goesM (some 5) rfl rfl Try.func80 (by kernel_rfl) rfl #[.slice A0_1 l0_1.length c0_1] rfl (by rfl) ?_; (with_reducible refine (sibylref01_Form.calls _ _ l0_1 true _ ?side1 ?side2 A4.out).mono ?_); (case side1 => exact ca (Kd.C_below HR0_1.out HB.out)); (case side2 => exact HC0_1.out); rintro e w' ⟨rfl, ⟨nd, rfl⟩⟩; refine ⟨_, rfl, ?_⟩) | (go_at_call 80; (with_reducible refine (sibylref01_Form.calls _ _ l0_2 false _ ?side1 ?side2 A6.out).mono ?_); (case side1 => exact (Kd.C_below HR0_2.out (bl1 HB GE331))); (case side2 => exact HC0_2.out); rintro e w' ⟨rfl, ⟨nd, rfl⟩⟩))
    go_meet
    case rel => exact ⟨_, (true), (by first | rfl | (simp; done) | (simp [*]; done)), H', ⟨by first | omega | exact Nat.le_refl _⟩, ⟨ba BK331.out⟩, ⟨bl1 HB GE331⟩⟩
  ·replace c5 := Bool.eq_false_iff.mpr c5
   subst c5
   have H1 : (sibylref02_Form.j0 k true a0_0 l0_1 l0_2) = some r := by rw [if_neg (show ¬ (false = true) by decide)] at H; exact H
   clear H
   have H := H1
   clear H1
   have H' := Aside0.mk H
   clear H
   have hcz14_0 : w3.cell? ⟨gb331, 0, none⟩ = some (.bool a0_0) := (blk_cell BK331.out 0).trans rfl
   have hcz14_1 : w3.cell? ⟨gb331, 1, none⟩ = some (.slice A0_1 l0_1.length c0_1) := (blk_cell BK331.out 1).trans rfl
   have hcz14_2 : w3.cell? ⟨gb331, 2, none⟩ = some (.slice A0_2 l0_2.length c0_2) := (blk_cell BK331.out 2).trans rfl
   have hfz14_0 := blk_frozen BK331.out 0
   have hfz14_1 := blk_frozen BK331.out 1
   have hfz14_2 := blk_frozen BK331.out 2
   go_wp2_with (first | ((with_reducible refine gate_callee (f := 80) rfl ?_); refine goesM (some 5) rfl rfl Try.func80 (by kernel_rfl) rfl #[.slice A0_1 l0_1.length c0_1] rfl (by rfl) ?_; (with_reducible refine (sibylref01_Form.calls _ _ l0_1 false _ ?side1 ?side2 A4.out).mono ?_); (case side1 => exact ca (Kd.C_below HR0_1.out HB.out)); (case side2 => exact HC0_1.out); rintro e w' ⟨rfl, ⟨nd, rfl⟩⟩; refine ⟨_, rfl, ?_⟩))
   go_meet
   case rel => exact ⟨_, (true), (by first | rfl | (simp; done) | (simp [*]; done)), H', ⟨by first | omega | exact Nat.le_refl _⟩, ⟨ba BK331.out⟩, ⟨bl1 HB GE331⟩⟩
 case rest =>
  clear HC2
  try clear c1
  try clear p2
  try clear c5
  try clear c7
  try clear c8
  try clear c8b0
  try clear c8b1
  try clear c8b2
  try clear c10
  try clear hcz11_0
  try clear hcz11_1
  try clear hcz11_2
  try clear hcz12_0
  try clear hcz12_1
  try clear hcz12_2
  try clear hcz13_0
  try clear hcz13_1
  try clear hcz13_2
  try clear hcz14_0
  try clear hcz14_1
  try clear hcz14_2
  try clear hcz9_0
  try clear hcz9_1
  try clear hcz9_2
  try clear hfz11_0
  try clear hfz11_1
  try clear hfz11_2
  try clear hfz12_0
  try clear hfz12_1
  try clear hfz12_2
  try clear hfz13_0
  try clear hfz13_1
  try clear hfz13_2
  try clear hfz14_0
  try clear hfz14_1
  try clear hfz14_2
  try clear hfz9_0
  try clear hfz9_1
  try clear hfz9_2
  obtain ⟨kq, x28_1, rfl, HA, HJ1, BK331, HB⟩ := hcut
  cases kq with
  | zero => exact absurd HA.out (by simp [sibylref02_Form.j0])
  | succ kj1 =>
   have H := HA.out
   clear HA
   simp only [sibylref02_Form.j0] at H
   by_cases c15 : x28_1 = true
   ·subst c15
    have H1 : (some false) = some r := by rw [if_pos rfl] at H; exact H
    clear H
    have H := H1
    clear H1
    obtain rfl := Option.some.inj H
    go_wp2
    go_ret
    exact ⟨by first | rfl | simp [*], bl1 HB GE331⟩
   ·replace c15 := Bool.eq_false_iff.mpr c15
    subst c15
    have H1 : ((sibylref01_Common.f kj1 l0_1 l0_2).bind fun t334 => ((sibylref01_Same.f kj1 t334 (([1] : List Int))).bind fun t340 => (some t340))) = some r := by rw [if_neg (show ¬ (false = true) by decide)] at H; exact H
    clear H
    have H := H1
    clear H1
    obtain ⟨t334, A16, H⟩ := bindA H
    obtain ⟨y337, hy337⟩ : ∃ y_ : List Int, y_ = (([1] : List Int)) := ⟨_, rfl⟩
    replace H : ((sibylref01_Same.f kj1 t334 y337).bind fun t340 => (some t340)) = some r := by rw [hy337]; exact H
    have Ny337 := Aside0.mk hy337
    clear hy337
    obtain ⟨t340, A17, H⟩ := bindA H
    obtain rfl := Option.some.inj H
    have hcz18_0 : wc.cell? ⟨gb331, 0, none⟩ = some (.bool a0_0) := (blk_cell BK331.out 0).trans rfl
    have hcz18_1 : wc.cell? ⟨gb331, 1, none⟩ = some (.slice A0_1 l0_1.length c0_1) := (blk_cell BK331.out 1).trans rfl
    have hcz18_2 : wc.cell? ⟨gb331, 2, none⟩ = some (.slice A0_2 l0_2.length c0_2) := (blk_cell BK331.out 2).trans rfl
    have hfz18_0 := blk_frozen BK331.out 0
    have hfz18_1 := blk_frozen BK331.out 1
    have hfz18_2 := blk_frozen BK331.out 2
    go_wp2_with (first | ((with_reducible refine gate_callee (f := 81) rfl ?_); refine goesM (some 33) rfl rfl Try.func81 (by kernel_rfl) rfl #[.slice A0_1 l0_1.length c0_1, .slice A0_2 l0_2.length c0_2] rfl (by rfl) ?_; (with_reducible refine (sibylref01_Common.calls kj1 _ _ l0_1 _ _ l0_2 t334 _ ?side1 ?side2 ?side3 ?side4 A16.out).mono ?_); (case side1 => exact ca (Kd.C_below HR0_1.out HB.out)); (case side2 => exact HC0_1.out); (case side3 => exact ca (Kd.C_below HR0_2.out HB.out)); (case side4 => exact HC0_2.out); rintro e w19 ⟨v335, rfl, ho0, hb⟩; refine ⟨_, rfl, ?_⟩; have n_ := mk3 (Kd.R_lower ho0 (below_size (bl1 HB GE331))) (blk_below (ba BK331.out) hb) (below_step (bl1 HB GE331) hb); clear BK331 HB; obtain ⟨HO336, BK331, HB⟩ := n_; (try clear hb); (try clear hb2); (try clear hk); (try clear hi); (try clear ho0)) | ((with_reducible refine gate_dst (N := 34) rfl ?_); (try (refine gate_guard (by rfl) ?_; dsimp only)); refine Kd.R_lit (Kd.int .u32) _ 99 ?hg (N := 34) ?hd (xs := ([1] : List Int)) (inner := [.int .u32 1]) (ok := fun _ => True) (okp := fun _ => True) ?hr ?hp (fun _ hk => hk) trivial (Below.refl _ _) (Nat.le_refl _) (by simp) ?_; (case hd => rfl); (case hg => rfl); (case hr => first | (go_simp; done) | (go_simp; rfl)); (case hp => exact (Reps.one (show Kd.M (Kd.int .u32) _ _ _ 1 [.int .u32 1] from rfl) (Reps.none _ _))); intro v338 w20 ho21 hb hg_ hnew_; clear hg_ hnew_; (first | rw [← Ny337.out] at ho21 | (simp only [Int.reduceToNat] at ho21; rw [← Ny337.out] at ho21)); have n_ := mk4 (Kd.R_elder' (ra HO336.out) (Kd.R_base ho21) hb) (Kd.R_lower (Kd.R_new' ho21 (Kd.R_lt (ra HO336.out))) (below_size (bl1 HB GE331))) (blk_below (ba BK331.out) hb) (below_step (bl1 HB GE331) hb); clear HO336 BK331 HB; obtain ⟨HO336, HO339, BK331, HB⟩ := n_; clear hb ho21; obtain ⟨Ao22, co22, eo22⟩ := Kd.R_slice HO336.out; subst eo22; obtain ⟨Ao23, co23, eo23⟩ := Kd.R_slice HO339.out; subst eo23) | ((with_reducible refine gate_callee (f := 36) rfl ?_); refine goesM (some 35) rfl rfl Try.func36 (by kernel_rfl) rfl #[.slice Ao22 t334.length co22, .slice Ao23 y337.length co23] rfl (by rfl) ?_; (with_reducible refine (sibylref01_Same.calls kj1 _ _ t334 _ _ y337 t340 _ ?side1 ?side2 ?side3 ?side4 A17.out).mono ?_); (case side1 => exact ca ((Kd.R_reads' HO336.out).2.2)); (case side2 => exact (Kd.R_reads' HO336.out).2.1); (case side3 => exact ca ((Kd.R_reads' HO339.out).2.2)); (case side4 => exact (Kd.R_reads' HO339.out).2.1); rintro e w' ⟨rfl, ⟨nd, rfl⟩⟩; refine ⟨_, rfl, ?_⟩))
    go_ret
    exact ⟨by first | rfl | simp [*], bl1 HB GE331⟩
def sibylref01_Fit.f (k : Nat) (l0 : List Int) : Option (List Int × Int) := (sibylref01_Trim.f k l0).bind fun t341 => (if (t341.length : Int) > 16 then (some (([] : List Int), 4)) else (some (t341, 0)))
set_option maxHeartbeats 8000000 in
set_option maxRecDepth 100000 in
theorem sibylref01_Fit.calls (k : Nat) (A0 : Option Addr) (c0 : Nat) (l0 : List Int) (r1 : List Int) (r2 : Int) (w : World) (hr0 : Kd.C (Kd.int .u32) w A0 l0.length l0) (hc0 : l0.length ≤ c0) (h : sibylref01_Fit.f k l0 = some (r1, r2)) :
  Calls Try.prog 82 #[.slice A0 l0.length c0] w fun e w' => ∃ v0_ : Value, e = .returned (.tuple #[v0_, .int .i64 r2]) ∧ Kd.R (Kd.int .u32) 99 w' w.heap.size (fun _ => True) v0_ r1 ∧ Below w.heap.size w w' := by
 have HR0 := Aside0.mk hr0
 have HC0 := Aside0.mk hc0
 clear hr0 hc0
 have HB := Aside0.mk (Below.refl w.heap.size w)
 have H : ((sibylref01_Trim.f k l0).bind fun t341 => (if (t341.length : Int) > 16 then (some (([] : List Int), 4)) else (some (t341, 0)))) = some (r1, r2) := h
 clear h
 obtain ⟨t341, A2, H⟩ := bindA H
 by_cases c3 : (t341.length : Int) > 16
 ·rw [if_pos c3] at H
  have c3b0 : decide (16 < (t341.length : Int)) = true := decide_eq_true c3
  have c3b1 : decide (16 < t341.length) = true := decide_eq_true (by omega)
  clear c3
  simp only [Option.some.injEq, Prod.mk.injEq] at H
  obtain ⟨rfl, rfl⟩ := H
  go_enter Try.func82, Try.ntmps82
  go_wp2_with (first | ((with_reducible refine gate_callee (f := 83) rfl ?_); refine goesM (some 6) rfl rfl Try.func83 (by kernel_rfl) rfl #[.slice A0 l0.length c0] rfl (by rfl) ?_; (with_reducible refine (sibylref01_Trim.calls k _ _ l0 t341 _ ?side1 ?side2 A2.out).mono ?_); (case side1 => exact ca HR0.out); (case side2 => exact HC0.out); rintro e w4 ⟨v342, rfl, ho0, hb⟩; refine ⟨_, rfl, ?_⟩; have n_ := mk2 (Kd.R_lower ho0 (below_size (bl HB))) (below_step (bl HB) hb); clear HB; obtain ⟨HO343, HB⟩ := n_; (try clear hb); (try clear hb2); (try clear hk); (try clear hi); (try clear ho0); obtain ⟨Ao5, co5, eo5⟩ := Kd.R_slice HO343.out; subst eo5))
  go_ret2
  exact ⟨_, by first | rfl | simp [*], by first | exact Kd.R_nil _ _ _ _ _ | exact Kd.V_nil _ _ _ _ _, bl HB⟩
 ·rw [if_neg c3] at H
  have c3b0 : decide (16 < (t341.length : Int)) = false := decide_eq_false c3
  have c3b1 : decide (16 < t341.length) = false := decide_eq_false (by omega)
  clear c3
  simp only [Option.some.injEq, Prod.mk.injEq] at H
  obtain ⟨rfl, rfl⟩ := H
  go_enter Try.func82, Try.ntmps82
  go_wp2_with (first | ((with_reducible refine gate_callee (f := 83) rfl ?_); refine goesM (some 6) rfl rfl Try.func83 (by kernel_rfl) rfl #[.slice A0 l0.length c0] rfl (by rfl) ?_; (with_reducible refine (sibylref01_Trim.calls k _ _ l0 t341 _ ?side1 ?side2 A2.out).mono ?_); (case side1 => exact ca HR0.out); (case side2 => exact HC0.out); rintro e w6 ⟨v342, rfl, ho0, hb⟩; refine ⟨_, rfl, ?_⟩; have n_ := mk2 (Kd.R_lower ho0 (below_size (bl HB))) (below_step (bl HB) hb); clear HB; obtain ⟨HO343, HB⟩ := n_; (try clear hb); (try clear hb2); (try clear hk); (try clear hi); (try clear ho0); obtain ⟨Ao7, co7, eo7⟩ := Kd.R_slice HO343.out; subst eo7))
  go_ret2
  exact ⟨_, by first | rfl | simp [*], ra HO343.out, bl HB⟩
mutual
def sibylref01_Text.l0 : Nat → List Int → ByteArray → Option (ByteArray × Int)
 | 0, _, _ => none
 | k + 1, x4, x6 => if (x4.length : Int) > 0 then (sibylref01_Text.l1 k x4 x6 0 (wrap64 ((x4.length : Int) - 1))) else (some (x6, 0))
def sibylref01_Text.l1 : Nat → List Int → ByteArray → Int → Int → Option (ByteArray × Int)
 | 0, _, _, _, _ => none
 | k + 1, x4, x6, x7, x8 => if x8 ≥ 0 then (if 0 ≤ x8 then (if x8 < (x4.length : Int) then (sibylref01_Text.l1 k (x4.set (x8 : Int).toNat ((IntKind.u64.wrap (Int.tdiv (IntKind.u64.wrap ((IntKind.u64.wrap (x7 * 4294967296)) + (IntKind.u64.wrap (rd x4 x8)))) 10)) % 4294967296)) x6 (Int.tmod (IntKind.u64.wrap ((IntKind.u64.wrap (x7 * 4294967296)) + (IntKind.u64.wrap (rd x4 x8)))) 10) (wrap64 (x8 - 1))) else (none)) else (none)) else (if 0 ≤ x7 then (if x7 ≤ (IntKind.u64.wrap (x7 + 1)) then (if (IntKind.u64.wrap (x7 + 1)) ≤ 10 then (if ((⟨#[48, 49, 50, 51, 52, 53, 54, 55, 56, 57]⟩ : ByteArray).extract (x7 : Int).toNat ((IntKind.u64.wrap (x7 + 1)) : Int).toNat).size + x6.size ≤ 9223372036854775807 then ((sibylref01_Trim.f k x4).bind fun t350 => (sibylref01_Text.l0 k t350 (((⟨#[48, 49, 50, 51, 52, 53, 54, 55, 56, 57]⟩ : ByteArray).extract (x7 : Int).toNat ((IntKind.u64.wrap (x7 + 1)) : Int).toNat) ++ x6))) else (none)) else (none)) else (none)) else (none))
end
def sibylref01_Text.f (k : Nat) (l0 : List Int) : Option (ByteArray × Int) := (sibylref01_Fit.f k l0).bind fun bt344 => (if bt344.2 = 0 then (if (bt344.1.length : Int) = 0 then (some ((⟨#[48]⟩ : ByteArray), 0)) else (sibylref01_Text.l0 k bt344.1 (⟨#[]⟩ : ByteArray))) else (some ((⟨#[]⟩ : ByteArray), bt344.2)))
set_option maxHeartbeats 8000000 in
set_option maxRecDepth 100000 in
theorem sibylref01_Text.calls (k : Nat) (A0 : Option Addr) (c0 : Nat) (l0 : List Int) (r1 : ByteArray) (r2 : Int) (w : World) (hr0 : Kd.C (Kd.int .u32) w A0 l0.length l0) (hc0 : l0.length ≤ c0) (h : sibylref01_Text.f k l0 = some (r1, r2)) :
  Calls Try.prog 54 #[.slice A0 l0.length c0] w fun e w' => e = .returned (.tuple #[.string r1, .int .i64 r2]) ∧ Below w.heap.size w w' := by
 have HR0 := Aside0.mk hr0
 have HC0 := Aside0.mk hc0
 clear hr0 hc0
 have HB := Aside0.mk (Below.refl w.heap.size w)
 have H : ((sibylref01_Fit.f k l0).bind fun bt344 => (if bt344.2 = 0 then (if (bt344.1.length : Int) = 0 then (some ((⟨#[48]⟩ : ByteArray), 0)) else (sibylref01_Text.l0 k bt344.1 (⟨#[]⟩ : ByteArray))) else (some ((⟨#[]⟩ : ByteArray), bt344.2)))) = some (r1, r2) := h
 clear h
 obtain ⟨⟨t344, t345⟩, A2, H⟩ := bindA H
 dsimp only at H
 by_cases c3 : t345 = 0
 ·rw [if_pos c3] at H
  have c3b0 : (t345 == 0) = true := beq_iff_eq.mpr c3
  have c3b1 : (t345 != 0) = false := bne_eq_false_iff_eq.mpr c3
  clear c3
  by_cases c4 : (t344.length : Int) = 0
  ·rw [if_pos c4] at H
   have c4b0 : ((t344.length : Int) == 0) = true := beq_iff_eq.mpr c4
   have c4b1 : ((t344.length : Int) != 0) = false := bne_eq_false_iff_eq.mpr c4
   clear c4
   simp only [Option.some.injEq, Prod.mk.injEq] at H
   obtain ⟨rfl, rfl⟩ := H
   go_enter Try.func54, Try.ntmps54
   go_wp2_with (first | ((with_reducible refine gate_callee (f := 82) rfl ?_); refine goesM (some 12) rfl rfl Try.func82 (by kernel_rfl) rfl #[.slice A0 l0.length c0] rfl (by rfl) ?_; (with_reducible refine (sibylref01_Fit.calls k _ _ l0 t344 t345 _ ?side1 ?side2 A2.out).mono ?_); (case side1 => exact ca HR0.out); (case side2 => exact HC0.out); rintro e w5 ⟨v346, rfl, ho0, hb⟩; refine ⟨_, rfl, ?_⟩; have n_ := mk2 (Kd.R_lower ho0 (below_size (bl HB))) (below_step (bl HB) hb); clear HB; obtain ⟨HO347, HB⟩ := n_; (try clear hb); (try clear hb2); (try clear hk); (try clear hi); (try clear ho0); obtain ⟨Ao6, co6, eo6⟩ := Kd.R_slice HO347.out; subst eo6))
   go_ret2
   exact ⟨by first | rfl | simp [*], bl HB⟩
  ·rw [if_neg c4] at H
   have c4b0 : ((t344.length : Int) == 0) = false := beq_eq_false_iff_ne.mpr c4
   have c4b1 : ((t344.length : Int) != 0) = true := bne_iff_ne.mpr c4
   have c4b2 : ¬ (t344 = []) := fun h_ => c4 (by rw [h_]; rfl)
   have H' := Aside0.mk H
   clear H
   go_enter Try.func54, Try.ntmps54
   go_wp2_with (first | ((with_reducible refine gate_callee (f := 82) rfl ?_); refine goesM (some 12) rfl rfl Try.func82 (by kernel_rfl) rfl #[.slice A0 l0.length c0] rfl (by rfl) ?_; (with_reducible refine (sibylref01_Fit.calls k _ _ l0 t344 t345 _ ?side1 ?side2 A2.out).mono ?_); (case side1 => exact ca HR0.out); (case side2 => exact HC0.out); rintro e w7 ⟨v346, rfl, ho0, hb⟩; refine ⟨_, rfl, ?_⟩; have n_ := mk2 (Kd.R_lower ho0 (below_size (bl HB))) (below_step (bl HB) hb); clear HB; obtain ⟨HO347, HB⟩ := n_; (try clear hb); (try clear hb2); (try clear hk); (try clear hi); (try clear ho0); obtain ⟨Ao8, co8, eo8⟩ := Kd.R_slice HO347.out; subst eo8))
   go_loopg [4, 6] k (fun kq v4 v6 w' => ∃ (x4_1 : List Int) (x6_1 : ByteArray), v6 = .string x6_1 ∧ Aside0 (sibylref01_Text.l0 kq x4_1 x6_1 = some (r1, r2)) ∧ Aside0 (kq ≤ k) ∧ Aside0 (Kd.R (Kd.int .u32) 99 w' w.heap.size (fun _ => True) v4 x4_1) ∧ Aside0 (Below w.heap.size w w'))
   case atStart => exact ⟨(t344), ((⟨#[]⟩ : ByteArray)), (by first | rfl | (simp; done) | (simp [*]; done)), H', ⟨Nat.le_refl _⟩, ⟨ra HO347.out⟩, ⟨bl HB⟩⟩
   case round =>
    clear H'
    try clear p2
    try clear c3
    try clear c3b0
    try clear c3b1
    try clear c4
    try clear c4b0
    try clear c4b1
    try clear c4b2
    try clear c5
    try clear c8
    obtain ⟨x4_1, x6_1, rfl, HA, HK1, HO_4, HB⟩ := hrel
    cases gk with
    | zero => exact absurd HA.out (by simp [sibylref01_Text.l0])
    | succ k1 =>
     have H := HA.out
     clear HA
     simp only [sibylref01_Text.l0] at H
     by_cases c9 : (x4_1.length : Int) > 0
     ·rw [if_pos c9] at H
      have c9b0 : decide (0 < (x4_1.length : Int)) = true := decide_eq_true c9
      have c9b1 : decide (0 < x4_1.length) = true := decide_eq_true (by omega)
      clear c9
      have H' := Aside0.mk H
      clear H
      obtain ⟨Ao10, co10, eo10⟩ := Kd.R_slice HO_4.out
      subst eo10
      go_wp2
      go_loopg [7, 8] k1 (fun kq v7 v8 w' => ∃ (x4_2 : List Int) (x7_2 : Int) (x8_2 : Int), v7 = .int .u64 x7_2 ∧ v8 = .int .i64 x8_2 ∧ Aside0 (sibylref01_Text.l1 kq x4_2 x6_1 x7_2 x8_2 = some (r1, r2)) ∧ Aside0 (kq ≤ k1) ∧ Aside0 (Kd.R (Kd.int .u32) 99 w' w.heap.size (fun _ => True) (.slice Ao10 x4_1.length co10) x4_2) ∧ Aside0 (Below w.heap.size w w'))
      case atStart => exact ⟨(x4_1), (0), (wrap64 ((x4_1.length : Int) - 1)), (by first | rfl | (simp; done) | (simp [*]; done)), (by first | rfl | (simp; done) | (simp [*]; done)), H', ⟨Nat.le_refl _⟩, ⟨ra HO_4.out⟩, ⟨bl HB⟩⟩
      case round =>
       clear H'
       try clear p2
       try clear c3
       try clear c3b0
       try clear c3b1
       try clear c4
       try clear c4b0
       try clear c4b1
       try clear c4b2
       try clear c5
       try clear p6
       try clear c8
       try clear c9
       try clear c9b0
       try clear c9b1
       try clear p2
       obtain ⟨x4_2, x7_2, x8_2, rfl, rfl, HA, HK2, HO_4, HB⟩ := hrel
       have hl4_2 := (Kd.R_reads' HO_4.out).1
       rw [hl4_2] at HO_4
       (try simp only [hl4_2])
       cases gk with
       | zero => exact absurd HA.out (by simp [sibylref01_Text.l1])
       | succ k2 =>
        have H := HA.out
        clear HA
        simp only [sibylref01_Text.l1] at H
        by_cases c11 : x8_2 ≥ 0
        ·rw [if_pos c11] at H
         have c11b0 : decide (0 ≤ x8_2) = true := decide_eq_true c11
         clear c11
         by_cases c12 : 0 ≤ x8_2
         ·rw [if_pos c12] at H
          have c12b0 : decide (0 ≤ x8_2) = true := decide_eq_true c12
          clear c12
          by_cases c13 : x8_2 < (x4_2.length : Int)
          ·rw [if_pos c13] at H
           have c13b0 : decide (x8_2 < (x4_2.length : Int)) = true := decide_eq_true c13
           clear c13
           obtain ⟨y349, hy349⟩ : ∃ y_ : List Int, y_ = (x4_2.set (x8_2 : Int).toNat ((IntKind.u64.wrap (Int.tdiv (IntKind.u64.wrap ((IntKind.u64.wrap (x7_2 * 4294967296)) + (IntKind.u64.wrap (rd x4_2 x8_2)))) 10)) % 4294967296)) := ⟨_, rfl⟩
           replace H : (sibylref01_Text.l1 k2 y349 x6_1 (Int.tmod (IntKind.u64.wrap ((IntKind.u64.wrap (x7_2 * 4294967296)) + (IntKind.u64.wrap (rd x4_2 x8_2)))) 10) (wrap64 (x8_2 - 1))) = some (r1, r2) := by rw [hy349]; exact H
           have Ny349 := Aside0.mk hy349
           clear hy349
           have H' := Aside0.mk H
           clear H
           have p348 : 0 ≤ (x8_2 : Int) := of_decide_eq_true (by first | (with_reducible assumption) | assumption)
           have q348 : x8_2 < (x4_2.length : Int) := of_decide_eq_true (by first | (with_reducible assumption) | assumption)
           obtain ⟨ad348, e348, hx348_0⟩ := Kd.at_int (Kd.R_reads' HO_4.out).2.2 x8_2 p348 q348
           cases e348
           replace p348 := eq_true p348
           replace q348 := eq_true q348
           have p14 : 0 ≤ (x8_2 : Int) := of_decide_eq_true (by first | (with_reducible assumption) | assumption)
           have q14 : (x8_2 : Int) < ((x4_2.length : Int) : Int) := of_decide_eq_true (by first | (with_reducible assumption) | assumption)
           obtain ⟨go14, co14, eo14, gb14, gl14, cl14, HG14⟩ := Kd.R_form HO_4.out (by omega)
           (first | cases eo14 | (injection eo14 with ea_ en_ ec_; (first | subst ea_ | (injection ea_ with ea_; subst ea_)); subst ec_; clear en_))
           have GB14 := Aside0.mk gb14
           have GG14 := Aside0.mk HG14
           clear gb14 gl14 HG14
           (first | simp only [add_plain] at hx348_0 | skip)
           obtain ⟨hx14_0, hf14_0⟩ := Kd.R_celln 0 HO_4.out (x8_2 : Int) p14 q14
           replace p14 := eq_true p14
           replace q14 := eq_true q14
           have HP15 := Kd.R_putg HO_4.out (x8_2 : Int) ((IntKind.u64.wrap (Int.tdiv (IntKind.u64.wrap ((IntKind.u64.wrap (x7_2 * 4294967296)) + (IntKind.u64.wrap (rd x4_2 x8_2)))) 10)) % 4294967296)
           go_wp2_with (first | ((with_reducible refine gate_store (t := 99) (p := 44) rfl ?_); refine store_event (t := 99) (p := 44) (v := ?vo_w16) (w1 := (wr.setCell ⟨go14, (x8_2 : Int).toNat, none⟩ (.int .u32 ((IntKind.u64.wrap (Int.tdiv (IntKind.u64.wrap ((IntKind.u64.wrap (x7_2 * 4294967296)) + (IntKind.u64.wrap (rd x4_2 x8_2)))) 10)) % 4294967296)))) ?hg ?ho ?hn ?hr ?_; (case ho => rfl); (case hg => rfl); (case hn => rfl); (case hr => first | (go_simp; done) | (go_simp; rfl)); intro w16 hw; have hg : wr.grownBy w16 (some go14) := (by rw [hw]; exact HP15.2); have hp_ : Kd.R (Kd.int .u32) 99 w16 w.heap.size (fun _ => True) (.slice (some ⟨go14, 0, none⟩) x4_2.length co10) y349 := (by rw [hw, Ny349.out]; exact HP15.1); clear HP15; have n_ := mk2 (hp_) ((by rw [hw]; exact below_set (HB.out) GB14.out : Below w.heap.size w w16)); clear HO_4 HB; obtain ⟨HO_4, HB⟩ := n_; clear hg hw hp_))
           (try simp only [← hl4_2])
           go_roundg k2
           case measure => have := HK1.out; have := HK2.out; omega
           case rel => exact ⟨(y349), (Int.tmod (IntKind.u64.wrap ((IntKind.u64.wrap (x7_2 * 4294967296)) + (IntKind.u64.wrap (rd x4_2 x8_2)))) 10), (wrap64 (x8_2 - 1)), (by first | rfl | (simp; done) | (simp [*]; done)), (by first | rfl | (simp; done) | (simp [*]; done)), H', ⟨by have := HK1.out; have := HK2.out; omega⟩, ⟨by (try simp only [hl4_2]); (with_reducible repeat (first | apply Kd.R_alloc | apply Kd.R_drewN | apply Kd.R_drew)); exact HO_4.out⟩, ⟨bl HB⟩⟩
          ·rw [if_neg c13] at H
           exact absurd H (by simp)
         ·rw [if_neg c12] at H
          exact absurd H (by simp)
        ·rw [if_neg c11] at H
         have c11b0 : decide (0 ≤ x8_2) = false := decide_eq_false c11
         clear c11
         by_cases c17 : 0 ≤ x7_2
         ·rw [if_pos c17] at H
          have c17b0 := eq_true c17
          have c17b1 : decide (0 ≤ x7_2) = true := decide_eq_true c17
          clear c17
          by_cases c18 : x7_2 ≤ (IntKind.u64.wrap (x7_2 + 1))
          ·rw [if_pos c18] at H
           have c18b0 := eq_true c18
           have c18b1 : decide (x7_2 ≤ (IntKind.u64.wrap (x7_2 + 1))) = true := decide_eq_true c18
           by_cases c19 : (IntKind.u64.wrap (x7_2 + 1)) ≤ 10
           ·rw [if_pos c19] at H
            have c19b0 := eq_true c19
            have c19b1 : decide ((IntKind.u64.wrap (x7_2 + 1)) ≤ 10) = true := decide_eq_true c19
            by_cases c20 : ((⟨#[48, 49, 50, 51, 52, 53, 54, 55, 56, 57]⟩ : ByteArray).extract (x7_2 : Int).toNat ((IntKind.u64.wrap (x7_2 + 1)) : Int).toNat).size + x6_1.size ≤ 9223372036854775807
            ·rw [if_pos c20] at H
             have c20b0 := eq_true c20
             have c20b1 : decide (((⟨#[48, 49, 50, 51, 52, 53, 54, 55, 56, 57]⟩ : ByteArray).extract (x7_2 : Int).toNat ((IntKind.u64.wrap (x7_2 + 1)) : Int).toNat).size + x6_1.size ≤ 9223372036854775807) = true := decide_eq_true c20
             try have c20b2 : (9223372036854775807 < ((⟨#[48, 49, 50, 51, 52, 53, 54, 55, 56, 57]⟩ : ByteArray).extract (x7_2 : Int).toNat ((IntKind.u64.wrap (x7_2 + 1)) : Int).toNat).size + x6_1.size) = False := eq_false (Nat.not_lt.2 c20)
             obtain ⟨t350, A21, H⟩ := bindA H
             have H' := Aside0.mk H
             clear H
             go_wp2_with (first | ((with_reducible refine gate_callee (f := 83) rfl ?_); refine goesM (some 54) rfl rfl Try.func83 (by kernel_rfl) rfl #[.slice Ao10 x4_2.length co10] rfl (by rfl) ?_; (with_reducible refine (sibylref01_Trim.calls k2 _ _ x4_2 t350 _ ?side1 ?side2 A21.out).mono ?_); (case side1 => exact ca ((Kd.R_reads' HO_4.out).2.2)); (case side2 => exact (Kd.R_reads' HO_4.out).2.1); rintro e w22 ⟨v351, rfl, ho0, hb⟩; refine ⟨_, rfl, ?_⟩; have n_ := mk3 (Kd.R_elder' (ra HO_4.out) (Kd.R_base ho0) hb) (Kd.R_lower (Kd.R_new' ho0 (Kd.R_lt (ra HO_4.out))) (below_size (bl HB))) (below_step (bl HB) hb); clear HO_4 HB; obtain ⟨HO_4, HO352, HB⟩ := n_; (try clear hb); (try clear hb2); (try clear hk); (try clear hi); (try clear ho0)))
             (try simp only [← hl4_2])
             go_roundg k2
             case measure => have := HK1.out; have := HK2.out; omega
             case rel => exact ⟨(t350), (((⟨#[48, 49, 50, 51, 52, 53, 54, 55, 56, 57]⟩ : ByteArray).extract (x7_2 : Int).toNat ((IntKind.u64.wrap (x7_2 + 1)) : Int).toNat) ++ x6_1), (by first | rfl | (simp; done) | (simp [*]; done)), H', ⟨by have := HK1.out; have := HK2.out; omega⟩, ⟨by (try simp only [hl4_2]); (with_reducible repeat (first | apply Kd.R_alloc | apply Kd.R_drewN | apply Kd.R_drew)); exact Kd.R_mono HO352.out (fun _ hk => trivial)⟩, ⟨bl HB⟩⟩
            ·rw [if_neg c20] at H
             exact absurd H (by simp)
           ·rw [if_neg c19] at H
            exact absurd H (by simp)
          ·rw [if_neg c18] at H
           exact absurd H (by simp)
         ·rw [if_neg c17] at H
          exact absurd H (by simp)
     ·rw [if_neg c9] at H
      have c9b0 : decide (0 < (x4_1.length : Int)) = false := decide_eq_false c9
      have c9b1 : decide (0 < x4_1.length) = false := decide_eq_false (by omega)
      clear c9
      simp only [Option.some.injEq, Prod.mk.injEq] at H
      obtain ⟨rfl, rfl⟩ := H
      obtain ⟨Ao23, co23, eo23⟩ := Kd.R_slice HO_4.out
      subst eo23
      go_wp2
      go_ret2
      exact ⟨by first | rfl | simp [*], bl HB⟩
 ·rw [if_neg c3] at H
  have c3b0 : (t345 == 0) = false := beq_eq_false_iff_ne.mpr c3
  have c3b1 : (t345 != 0) = true := bne_iff_ne.mpr c3
  simp only [Option.some.injEq, Prod.mk.injEq] at H
  obtain ⟨rfl, rfl⟩ := H
  go_enter Try.func54, Try.ntmps54
  go_wp2_with (first | ((with_reducible refine gate_callee (f := 82) rfl ?_); refine goesM (some 12) rfl rfl Try.func82 (by kernel_rfl) rfl #[.slice A0 l0.length c0] rfl (by rfl) ?_; (with_reducible refine (sibylref01_Fit.calls k _ _ l0 t344 t345 _ ?side1 ?side2 A2.out).mono ?_); (case side1 => exact ca HR0.out); (case side2 => exact HC0.out); rintro e w24 ⟨v346, rfl, ho0, hb⟩; refine ⟨_, rfl, ?_⟩; have n_ := mk2 (Kd.R_lower ho0 (below_size (bl HB))) (below_step (bl HB) hb); clear HB; obtain ⟨HO347, HB⟩ := n_; (try clear hb); (try clear hb2); (try clear hk); (try clear hi); (try clear ho0)))
  go_ret2
  exact ⟨by first | rfl | simp [*], bl HB⟩
def sibylref02_Text.j0 : Nat → ByteArray → Bool → List Int → List Int → Option (ByteArray × Int)
 | 0, _, _, _, _ => none
 | k + 1, x4, x354000, x354001, x354002 => (sibylref01_Same.f k x354002 (([1] : List Int))).bind fun t360 => (if t360 = true then (some (x4, 0)) else ((sibylref01_Text.f k x354002).bind fun bt361 => (if x4.size + 1 ≤ 9223372036854775807 then (if (x4 ++ (⟨#[47]⟩ : ByteArray)).size + bt361.1.size ≤ 9223372036854775807 then (some ((x4 ++ (⟨#[47]⟩ : ByteArray)) ++ bt361.1, 0)) else (none)) else (none))))
def sibylref02_Text.f (k : Nat) (a0_0 : Bool) (l0_1 : List Int) (l0_2 : List Int) : Option (ByteArray × Int) := (sibylref02_Form.f k a0_0 l0_1 l0_2).bind fun t354 => (if t354 = true then ((sibylref01_Text.f k l0_1).bind fun bt355 => (if a0_0 = true then (if 1 + bt355.1.size ≤ 9223372036854775807 then (sibylref02_Text.j0 k ((⟨#[45]⟩ : ByteArray) ++ bt355.1) a0_0 l0_1 l0_2) else (none)) else (sibylref02_Text.j0 k bt355.1 a0_0 l0_1 l0_2))) else (some ((⟨#[]⟩ : ByteArray), 20)))
set_option maxHeartbeats 8000000 in
set_option maxRecDepth 100000 in
theorem sibylref02_Text.calls (k : Nat) (a0_0 : Bool) (A0_1 : Option Addr) (c0_1 : Nat) (l0_1 : List Int) (A0_2 : Option Addr) (c0_2 : Nat) (l0_2 : List Int) (r1 : ByteArray) (r2 : Int) (w : World) (hr0_1 : Kd.C (Kd.int .u32) w A0_1 l0_1.length l0_1) (hc0_1 : l0_1.length ≤ c0_1) (hr0_2 : Kd.C (Kd.int .u32) w A0_2 l0_2.length l0_2) (hc0_2 : l0_2.length ≤ c0_2) (h : sibylref02_Text.f k a0_0 l0_1 l0_2 = some (r1, r2)) :
  Calls Try.prog 26 #[.agg #[.bool a0_0, .slice A0_1 l0_1.length c0_1, .slice A0_2 l0_2.length c0_2]] w fun e w' => e = .returned (.tuple #[.string r1, .int .i64 r2]) ∧ Below w.heap.size w w' := by
 have hu36 := Try.underlying36
 have HR0_1 := Aside0.mk hr0_1
 have HC0_1 := Aside0.mk hc0_1
 clear hr0_1 hc0_1
 have HR0_2 := Aside0.mk hr0_2
 have HC0_2 := Aside0.mk hc0_2
 clear hr0_2 hc0_2
 have HB := Aside0.mk (Below.refl w.heap.size w)
 have H : ((sibylref02_Form.f k a0_0 l0_1 l0_2).bind fun t354 => (if t354 = true then ((sibylref01_Text.f k l0_1).bind fun bt355 => (if a0_0 = true then (if 1 + bt355.1.size ≤ 9223372036854775807 then (sibylref02_Text.j0 k ((⟨#[45]⟩ : ByteArray) ++ bt355.1) a0_0 l0_1 l0_2) else (none)) else (sibylref02_Text.j0 k bt355.1 a0_0 l0_1 l0_2))) else (some ((⟨#[]⟩ : ByteArray), 20)))) = some (r1, r2) := h
 clear h
 obtain ⟨t354, A2, H⟩ := bindA H
 by_cases c3 : t354 = true
 ·subst c3
  have H1 : ((sibylref01_Text.f k l0_1).bind fun bt355 => (if a0_0 = true then (if 1 + bt355.1.size ≤ 9223372036854775807 then (sibylref02_Text.j0 k ((⟨#[45]⟩ : ByteArray) ++ bt355.1) a0_0 l0_1 l0_2) else (none)) else (sibylref02_Text.j0 k bt355.1 a0_0 l0_1 l0_2))) = some (r1, r2) := by rw [if_pos rfl] at H; exact H
  clear H
  have H := H1
  clear H1
  obtain ⟨⟨t355, t356⟩, A4, H⟩ := bindA H
  dsimp only at H
  have HC5 := Aside0.mk H
  clear H
  go_enter Try.func26, Try.ntmps26
  go_upto_if 18 with (first | ((with_reducible refine gate_dst (N := 1) rfl ?_); refine box_event ?hg (N := 1) ?hd (cs := #[.bool a0_0, .slice A0_1 l0_1.length c0_1, .slice A0_2 l0_2.length c0_2]) (t := 36) ?hr ?_; (case hd => rfl); (case hg => rfl); (case hr => first | (go_simp; done) | (go_simp; rfl)); intro gb353 hg w6 hbox hb; have n_ := mk4 (below_step (bl HB) hb) (hbox) ((by rw [hg]; exact (below_size (bl HB)) : w.heap.size ≤ gb353)) ((by rw [hg]; exact (below_size (bl HB)) : w.heap.size ≤ gb353)); clear HB; obtain ⟨HB, BK353, GW353, GE353⟩ := n_; clear hb hbox hg; obtain ⟨hcz7_0, hcz7_1, hcz7_2, hfz7_0, hfz7_1, hfz7_2⟩ := blk3 BK353.out) | ((with_reducible refine gate_callee (f := 53) rfl ?_); refine goesM (some 9) rfl rfl Try.func53 (by kernel_rfl) rfl #[.agg #[.bool a0_0, .slice A0_1 l0_1.length c0_1, .slice A0_2 l0_2.length c0_2]] rfl (by rfl) ?_; (with_reducible refine (sibylref02_Form.calls k a0_0 _ _ l0_1 _ _ l0_2 true _ ?side1 ?side2 ?side3 ?side4 A2.out).mono ?_); (case side1 => exact ca (Kd.C_below HR0_1.out HB.out)); (case side2 => exact HC0_1.out); (case side3 => exact ca (Kd.C_below HR0_2.out HB.out)); (case side4 => exact HC0_2.out); rintro e w8 ⟨rfl, hb⟩; refine ⟨_, rfl, ?_⟩; have n_ := mk2 (blk_below (ba BK353.out) hb) (below_step (bl1 HB GE353) hb); clear BK353 HB; obtain ⟨BK353, HB⟩ := n_; (try clear hb); (try clear hb2); (try clear hk); (try clear hi); obtain ⟨hcz9_0, hcz9_1, hcz9_2, hfz9_0, hfz9_1, hfz9_2⟩ := blk3 BK353.out) | ((with_reducible refine gate_callee (f := 54) rfl ?_); refine goesM (some 14) rfl rfl Try.func54 (by kernel_rfl) rfl #[.slice A0_1 l0_1.length c0_1] rfl (by rfl) ?_; (with_reducible refine (sibylref01_Text.calls k _ _ l0_1 t355 t356 _ ?side1 ?side2 A4.out).mono ?_); (case side1 => exact ca (Kd.C_below HR0_1.out HB.out)); (case side2 => exact HC0_1.out); rintro e w10 ⟨rfl, hb⟩; refine ⟨_, rfl, ?_⟩; have n_ := mk2 (blk_below (ba BK353.out) hb) (below_step (bl1 HB GE353) hb); clear BK353 HB; obtain ⟨BK353, HB⟩ := n_; (try clear hb); (try clear hb2); (try clear hk); (try clear hi); obtain ⟨hcz11_0, hcz11_1, hcz11_2, hfz11_0, hfz11_1, hfz11_2⟩ := blk3 BK353.out))
  (try simp only [Act.put, List.setIfInBounds_toArray, List.set_cons_zero, List.set_cons_succ])
  go_cut [4] (fun v4 wc => ∃ (kq : Nat) (x4_4 : ByteArray), v4 = .string x4_4 ∧ Aside0 (sibylref02_Text.j0 kq x4_4 a0_0 l0_1 l0_2 = some (r1, r2)) ∧ Aside0 (kq ≤ k) ∧ Aside0 (wc.heap[gb353]? = some (.cells #[.bool a0_0, (.slice A0_1 l0_1.length c0_1), (.slice A0_2 l0_2.length c0_2)] 36 (0, 0))) ∧ Aside0 (Below w.heap.size w wc))
  case first =>
   have H := HC5.out
   clear HC5
   by_cases c12 : a0_0 = true
   ·subst c12
    have H1 : (if 1 + t355.size ≤ 9223372036854775807 then (sibylref02_Text.j0 k ((⟨#[45]⟩ : ByteArray) ++ t355) true l0_1 l0_2) else (none)) = some (r1, r2) := by rw [if_pos rfl] at H; exact H
    clear H
    have H := H1
    clear H1
    by_cases c13 : 1 + t355.size ≤ 9223372036854775807
    ·rw [if_pos c13] at H
     have c13b0 := eq_true c13
     have c13b1 : decide (1 + t355.size ≤ 9223372036854775807) = true := decide_eq_true c13
     try have c13b2 : (9223372036854775807 < 1 + t355.size) = False := eq_false (Nat.not_lt.2 c13)
     have H' := Aside0.mk H
     clear H
     go_wp2
     go_meet
     case rel => exact ⟨_, ((⟨#[45]⟩ : ByteArray) ++ t355), (by first | rfl | (simp; done) | (simp [*]; done)), H', ⟨by first | omega | exact Nat.le_refl _⟩, ⟨ba BK353.out⟩, ⟨bl1 HB GE353⟩⟩
    ·rw [if_neg c13] at H
     exact absurd H (by simp)
   ·replace c12 := Bool.eq_false_iff.mpr c12
    subst c12
    have H1 : (sibylref02_Text.j0 k t355 false l0_1 l0_2) = some (r1, r2) := by rw [if_neg (show ¬ (false = true) by decide)] at H; exact H
    clear H
    have H := H1
    clear H1
    have H' := Aside0.mk H
    clear H
    go_wp2
    go_meet
    case rel => exact ⟨_, (t355), (by first | rfl | (simp; done) | (simp [*]; done)), H', ⟨by first | omega | exact Nat.le_refl _⟩, ⟨ba BK353.out⟩, ⟨bl1 HB GE353⟩⟩
  case rest =>
   clear HC5
   try clear c1
   try clear c2
   try clear p2
   try clear c3
   try clear c5
   try clear c12
   try clear c13
   try clear c13b0
   try clear c13b1
   try clear c13b2
   try clear hcz11_0
   try clear hcz11_1
   try clear hcz11_2
   try clear hcz7_0
   try clear hcz7_1
   try clear hcz7_2
   try clear hcz9_0
   try clear hcz9_1
   try clear hcz9_2
   try clear hfz11_0
   try clear hfz11_1
   try clear hfz11_2
   try clear hfz7_0
   try clear hfz7_1
   try clear hfz7_2
   try clear hfz9_0
   try clear hfz9_1
   try clear hfz9_2
   obtain ⟨kq, x4_4, rfl, HA, HJ4, BK353, HB⟩ := hcut
   cases kq with
   | zero => exact absurd HA.out (by simp [sibylref02_Text.j0])
   | succ kj4 =>
    have H := HA.out
    clear HA
    simp only [sibylref02_Text.j0] at H
    obtain ⟨y357, hy357⟩ : ∃ y_ : List Int, y_ = (([1] : List Int)) := ⟨_, rfl⟩
    replace H : ((sibylref01_Same.f kj4 l0_2 y357).bind fun t360 => (if t360 = true then (some (x4_4, 0)) else ((sibylref01_Text.f kj4 l0_2).bind fun bt361 => (if x4_4.size + 1 ≤ 9223372036854775807 then (if (x4_4 ++ (⟨#[47]⟩ : ByteArray)).size + bt361.1.size ≤ 9223372036854775807 then (some ((x4_4 ++ (⟨#[47]⟩ : ByteArray)) ++ bt361.1, 0)) else (none)) else (none))))) = some (r1, r2) := by rw [hy357]; exact H
    have Ny357 := Aside0.mk hy357
    clear hy357
    obtain ⟨t360, A14, H⟩ := bindA H
    by_cases c15 : t360 = true
    ·subst c15
     have H1 : (some (x4_4, 0)) = some (r1, r2) := by rw [if_pos rfl] at H; exact H
     clear H
     have H := H1
     clear H1
     simp only [Option.some.injEq, Prod.mk.injEq] at H
     obtain ⟨rfl, rfl⟩ := H
     have hcz16_0 : wc.cell? ⟨gb353, 0, none⟩ = some (.bool a0_0) := (blk_cell BK353.out 0).trans rfl
     have hcz16_1 : wc.cell? ⟨gb353, 1, none⟩ = some (.slice A0_1 l0_1.length c0_1) := (blk_cell BK353.out 1).trans rfl
     have hcz16_2 : wc.cell? ⟨gb353, 2, none⟩ = some (.slice A0_2 l0_2.length c0_2) := (blk_cell BK353.out 2).trans rfl
     have hfz16_0 := blk_frozen BK353.out 0
     have hfz16_1 := blk_frozen BK353.out 1
     have hfz16_2 := blk_frozen BK353.out 2
     go_wp2_with (first | ((with_reducible refine gate_dst (N := 23) rfl ?_); refine Kd.R_lit (Kd.int .u32) _ 99 ?hg (N := 23) ?hd (xs := ([1] : List Int)) (inner := [.int .u32 1]) (ok := fun _ => True) (okp := fun _ => True) ?hr ?hp (fun _ hk => hk) trivial (Below.refl _ _) (Nat.le_refl _) (by simp) ?_; (case hd => rfl); (case hg => rfl); (case hr => first | (go_simp; done) | (go_simp; rfl)); (case hp => exact (Reps.one (show Kd.M (Kd.int .u32) _ _ _ 1 [.int .u32 1] from rfl) (Reps.none _ _))); intro v358 w17 ho18 hb hg_ hnew_; clear hg_ hnew_; (first | rw [← Ny357.out] at ho18 | (simp only [Int.reduceToNat] at ho18; rw [← Ny357.out] at ho18)); have n_ := mk3 (Kd.R_lower ho18 (below_size (bl1 HB GE353))) (blk_below (ba BK353.out) hb) (below_step (bl1 HB GE353) hb); clear BK353 HB; obtain ⟨HO359, BK353, HB⟩ := n_; clear hb ho18; obtain ⟨Ao19, co19, eo19⟩ := Kd.R_slice HO359.out; subst eo19) | ((with_reducible refine gate_callee (f := 36) rfl ?_); refine goesM (some 24) rfl rfl Try.func36 (by kernel_rfl) rfl #[.slice A0_2 l0_2.length c0_2, .slice Ao19 y357.length co19] rfl (by rfl) ?_; (with_reducible refine (sibylref01_Same.calls kj4 _ _ l0_2 _ _ y357 true _ ?side1 ?side2 ?side3 ?side4 A14.out).mono ?_); (case side1 => exact ca (Kd.C_below HR0_2.out HB.out)); (case side2 => exact HC0_2.out); (case side3 => exact ca ((Kd.R_reads' HO359.out).2.2)); (case side4 => exact (Kd.R_reads' HO359.out).2.1); rintro e w' ⟨rfl, ⟨nd, rfl⟩⟩; refine ⟨_, rfl, ?_⟩))
     go_ret2
     exact ⟨by first | rfl | simp [*], bl1 HB GE353⟩
    ·replace c15 := Bool.eq_false_iff.mpr c15
     subst c15
     have H1 : ((sibylref01_Text.f kj4 l0_2).bind fun bt361 => (if x4_4.size + 1 ≤ 9223372036854775807 then (if (x4_4 ++ (⟨#[47]⟩ : ByteArray)).size + bt361.1.size ≤ 9223372036854775807 then (some ((x4_4 ++ (⟨#[47]⟩ : ByteArray)) ++ bt361.1, 0)) else (none)) else (none))) = some (r1, r2) := by rw [if_neg (show ¬ (false = true) by decide)] at H; exact H
     clear H
     have H := H1
     clear H1
     obtain ⟨⟨t361, t362⟩, A20, H⟩ := bindA H
     dsimp only at H
     by_cases c21 : x4_4.size + 1 ≤ 9223372036854775807
     ·rw [if_pos c21] at H
      have c21b0 := eq_true c21
      have c21b1 : decide (x4_4.size + 1 ≤ 9223372036854775807) = true := decide_eq_true c21
      try have c21b2 : (9223372036854775807 < x4_4.size + 1) = False := eq_false (Nat.not_lt.2 c21)
      by_cases c22 : (x4_4 ++ (⟨#[47]⟩ : ByteArray)).size + t361.size ≤ 9223372036854775807
      ·rw [if_pos c22] at H
       have c22b0 := eq_true c22
       have c22b1 : decide ((x4_4 ++ (⟨#[47]⟩ : ByteArray)).size + t361.size ≤ 9223372036854775807) = true := decide_eq_true c22
       try have c22b2 : (9223372036854775807 < (x4_4 ++ (⟨#[47]⟩ : ByteArray)).size + t361.size) = False := eq_false (Nat.not_lt.2 c22)
       simp only [Option.some.injEq, Prod.mk.injEq] at H
       obtain ⟨rfl, rfl⟩ := H
       have hcz23_0 : wc.cell? ⟨gb353, 0, none⟩ = some (.bool a0_0) := (blk_cell BK353.out 0).trans rfl
       have hcz23_1 : wc.cell? ⟨gb353, 1, none⟩ = some (.slice A0_1 l0_1.length c0_1) := (blk_cell BK353.out 1).trans rfl
       have hcz23_2 : wc.cell? ⟨gb353, 2, none⟩ = some (.slice A0_2 l0_2.length c0_2) := (blk_cell BK353.out 2).trans rfl
       have hfz23_0 := blk_frozen BK353.out 0
       have hfz23_1 := blk_frozen BK353.out 1
       have hfz23_2 := blk_frozen BK353.out 2
       go_wp2_with (first | ((with_reducible refine gate_dst (N := 23) rfl ?_); refine Kd.R_lit (Kd.int .u32) _ 99 ?hg (N := 23) ?hd (xs := ([1] : List Int)) (inner := [.int .u32 1]) (ok := fun _ => True) (okp := fun _ => True) ?hr ?hp (fun _ hk => hk) trivial (Below.refl _ _) (Nat.le_refl _) (by simp) ?_; (case hd => rfl); (case hg => rfl); (case hr => first | (go_simp; done) | (go_simp; rfl)); (case hp => exact (Reps.one (show Kd.M (Kd.int .u32) _ _ _ 1 [.int .u32 1] from rfl) (Reps.none _ _))); intro v358 w24 ho25 hb hg_ hnew_; clear hg_ hnew_; (first | rw [← Ny357.out] at ho25 | (simp only [Int.reduceToNat] at ho25; rw [← Ny357.out] at ho25)); have n_ := mk3 (Kd.R_lower ho25 (below_size (bl1 HB GE353))) (blk_below (ba BK353.out) hb) (below_step (bl1 HB GE353) hb); clear BK353 HB; obtain ⟨HO359, BK353, HB⟩ := n_; clear hb ho25; obtain ⟨Ao26, co26, eo26⟩ := Kd.R_slice HO359.out; subst eo26) | ((with_reducible refine gate_callee (f := 36) rfl ?_); refine goesM (some 24) rfl rfl Try.func36 (by kernel_rfl) rfl #[.slice A0_2 l0_2.length c0_2, .slice Ao26 y357.length co26] rfl (by rfl) ?_; (with_reducible refine (sibylref01_Same.calls kj4 _ _ l0_2 _ _ y357 false _ ?side1 ?side2 ?side3 ?side4 A14.out).mono ?_); (case side1 => exact ca (Kd.C_below HR0_2.out HB.out)); (case side2 => exact HC0_2.out); (case side3 => exact ca ((Kd.R_reads' HO359.out).2.2)); (case side4 => exact (Kd.R_reads' HO359.out).2.1); rintro e w' ⟨rfl, ⟨nd, rfl⟩⟩; refine ⟨_, rfl, ?_⟩; obtain ⟨hcz27_0, hcz27_1, hcz27_2, hfz27_0, hfz27_1, hfz27_2⟩ := blk3 BK353.out) | ((with_reducible refine gate_callee (f := 54) rfl ?_); refine goesM (some 29) rfl rfl Try.func54 (by kernel_rfl) rfl #[.slice A0_2 l0_2.length c0_2] rfl (by rfl) ?_; (with_reducible refine (sibylref01_Text.calls kj4 _ _ l0_2 t361 t362 _ ?side1 ?side2 A20.out).mono ?_); (case side1 => exact (Kd.C_below HR0_2.out (bl1 HB GE353))); (case side2 => exact HC0_2.out); rintro e w28 ⟨rfl, hb⟩; refine ⟨_, rfl, ?_⟩; have n_ := mk3 (Kd.R_below (ra HO359.out) hb) (blk_below (ba BK353.out) hb) (below_step (bl1 HB GE353) hb); clear HO359 BK353 HB; obtain ⟨HO359, BK353, HB⟩ := n_; (try clear hb); (try clear hb2); (try clear hk); (try clear hi)))
       go_ret2
       exact ⟨by first | rfl | simp [*], bl1 HB GE353⟩
      ·rw [if_neg c22] at H
       exact absurd H (by simp)
     ·rw [if_neg c21] at H
      exact absurd H (by simp)
 ·replace c3 := Bool.eq_false_iff.mpr c3
  subst c3
  have H1 : (some ((⟨#[]⟩ : ByteArray), 20)) = some (r1, r2) := by rw [if_neg (show ¬ (false = true) by decide)] at H; exact H
  clear H
  have H := H1
  clear H1
  simp only [Option.some.injEq, Prod.mk.injEq] at H
  obtain ⟨rfl, rfl⟩ := H
  go_enter Try.func26, Try.ntmps26
  go_wp2_with (first | ((with_reducible refine gate_dst (N := 1) rfl ?_); refine box_event ?hg (N := 1) ?hd (cs := #[.bool a0_0, .slice A0_1 l0_1.length c0_1, .slice A0_2 l0_2.length c0_2]) (t := 36) ?hr ?_; (case hd => rfl); (case hg => rfl); (case hr => first | (go_simp; done) | (go_simp; rfl)); intro gb353 hg w29 hbox hb; have n_ := mk4 (below_step (bl HB) hb) (hbox) ((by rw [hg]; exact (below_size (bl HB)) : w.heap.size ≤ gb353)) ((by rw [hg]; exact (below_size (bl HB)) : w.heap.size ≤ gb353)); clear HB; obtain ⟨HB, BK353, GW353, GE353⟩ := n_; clear hb hbox hg; obtain ⟨hcz30_0, hcz30_1, hcz30_2, hfz30_0, hfz30_1, hfz30_2⟩ := blk3 BK353.out) | ((with_reducible refine gate_callee (f := 53) rfl ?_); refine goesM (some 9) rfl rfl Try.func53 (by kernel_rfl) rfl #[.agg #[.bool a0_0, .slice A0_1 l0_1.length c0_1, .slice A0_2 l0_2.length c0_2]] rfl (by rfl) ?_; (with_reducible refine (sibylref02_Form.calls k a0_0 _ _ l0_1 _ _ l0_2 false _ ?side1 ?side2 ?side3 ?side4 A2.out).mono ?_); (case side1 => exact ca (Kd.C_below HR0_1.out HB.out)); (case side2 => exact HC0_1.out); (case side3 => exact ca (Kd.C_below HR0_2.out HB.out)); (case side4 => exact HC0_2.out); rintro e w31 ⟨rfl, hb⟩; refine ⟨_, rfl, ?_⟩; have n_ := mk2 (blk_below (ba BK353.out) hb) (below_step (bl1 HB GE353) hb); clear BK353 HB; obtain ⟨BK353, HB⟩ := n_; (try clear hb); (try clear hb2); (try clear hk); (try clear hi)))
  go_ret2
  exact ⟨by first | rfl | simp [*], bl1 HB GE353⟩
end Go.Proofs.Ytjppanekddljbaa.Pr
/- The law's wakes returns true. -/
namespace Go.Proofs.Ytjppanekddljbaa.H
open Go.RowKit Go.Proofs.Ytjppanekddljbaa.Pr Go.Proofs.YtjppanekddljbaaW.PrintWords Go.Proofs.YtjppanekddljbaaW.PrintLast Go.Proofs.YtjppanekddljbaaW.PrintMore
open Go.Proofs.Ytjppanekddljbaa.Fl
def W13 : List Nat := [4607182418800017408, 4613937818241073152]
def WNM : List Nat := [9221120237041090561, 13830554455654793216]
def L1 : List S68 := [⟨2, 1⟩, ⟨2, 0⟩]
def L2 : List S68 := [⟨2, 1⟩, ⟨3, 0⟩]
theorem k1 : (List.range 2).map (shareW (wOf W13 0) 2) = [4598175219545276416, 4604930618986332160] := by decide +kernel
theorem k2 : (List.range 2).map (shareW (wOf WNM 0) 2) = [4602678819172646912, 4602678819172646912] := by decide +kernel
theorem k3 : chanceTo W13 L1 2 = some 4603241769126068224 := by decide +kernel
theorem k4 : sumF [9214871658872686752, 9214871658872686752] = some 9218868437227405312 := by decide +kernel
theorem k5 : odds_Exact.f 40 L2 = some (false, [1], [6], 0) := by decide +kernel
theorem k6 : goodB L1 = true ∧ goodB L2 = true := by decide +kernel
theorem C_lit2 (w : World) (a b : Nat) : kf.C (w.alloc (.cells #[.float .f64 a, .float .f64 b] 25)) (some ⟨w.heap.size, 0, none⟩) 2 [a, b] := by
  refine Kd.C_of_reads (d := 0) (h1 := fun _ => rfl) ⟨rfl, by omega, fun _ => ⟨_, rfl, fun j hj => ?_⟩⟩
  rw [add_plain]
  rcases (by omega : j = 0 ∨ j = 1) with rfl | rfl <;> go_simp <;> rfl
theorem C_litP (w : World) (a b c d : Int) (n : Nat) (hn : n = w.heap.size) : Kd.C k68 (w.alloc (.cells #[.int .i64 a, .int .i64 b, .int .i64 c, .int .i64 d] 68)) (some ⟨n, 0, none⟩) 2 [⟨a, b⟩, ⟨c, d⟩] := by
  subst hn
  refine ⟨rfl, by omega, fun _ => ⟨_, rfl, fun j p hj => ?_⟩⟩
  have hlt : j < 2 := (List.getElem?_eq_some_iff.1 hj).1
  rcases (by omega : j = 0 ∨ j = 1) with rfl | rfl
  · obtain rfl : (⟨a, b⟩ : S68) = p := by simpa using hj
    refine ⟨_, rfl, k68_mk _ _, fun i u hi => ?_⟩
    have hlt : i < 2 := (List.getElem?_eq_some_iff.1 hi).1
    rcases (by omega : i = 0 ∨ i = 1) with rfl | rfl
    · obtain rfl := Option.some.inj hi; rw [add_plain]; go_simp
    · obtain rfl := Option.some.inj hi; rw [add_plain]; go_simp
  · obtain rfl : (⟨c, d⟩ : S68) = p := by simpa using hj
    refine ⟨_, rfl, k68_mk _ _, fun i u hi => ?_⟩
    have hlt : i < 2 := (List.getElem?_eq_some_iff.1 hi).1
    rcases (by omega : i = 0 ∨ i = 1) with rfl | rfl
    · obtain rfl := Option.some.inj hi; rw [add_plain]; go_simp; rfl
    · obtain rfl := Option.some.inj hi; rw [add_plain]; go_simp; rfl
theorem k7 : sibylref02_Text.f 100 false [1] [6] = some (⟨#[49, 47, 54]⟩, 0) := by kernel_rfl
set_option maxHeartbeats 4000000 in
set_option maxRecDepth 100000 in
theorem wakes_calls (w : World) : Calls Try.prog 7 #[] w fun e w' => e = .returned (.bool true) ∧ Below w.heap.size w w' := by
  go_enter Try.func7, Try.ntmps7
  go_wp2_with (fail)
  refine (shares_ok _ _ W13 0 2 _ (C_lit2 w _ _) (by decide) (by decide) (by decide) (by omega) (by omega) (by omega) (by omega)).mono ?_
  rintro e w1 ⟨v1, rfl, ho1, hb1⟩
  obtain ⟨g1, cap1, e1, hg1, hl1, _⟩ := Kd.R_form ho1 (by decide)
  rw [k1] at ho1 e1
  subst e1
  have HB1 := Aside0.mk (below_step (below_alloc (Below.refl _ _) _) hb1)
  clear hb1
  have ca := own_f_cell ho1 0 (by decide)
  have cb := own_f_cell ho1 1 (by decide)
  simp only [List.getD] at ca cb
  clear ho1 hg1
  go_wp2_with (fail)
  refine (nan_calls _).mono ?_
  rintro e w' ⟨rfl, ⟨nd, rfl⟩⟩
  go_wp2_with (fail)
  refine (shares_ok _ _ WNM 0 2 _ (Kd.C_drewN (C_lit2 w1 _ _) _) (by decide) (by decide) (by decide) (by omega) (by omega) (by omega) (by omega)).mono ?_
  rintro e w2 ⟨v2, rfl, ho2, hb2⟩
  obtain ⟨g2, cap2, e2, _, _, _⟩ := Kd.R_form ho2 (by decide)
  rw [k2] at ho2 e2
  subst e2
  replace hb2 := below_step (pw_below_drewN (below_alloc (Below.refl _ _) _) nd) hb2
  replace HB1 := Aside0.mk (below_step HB1.out hb2)
  replace ca := pw_cell_below hb2 ca
  replace cb := pw_cell_below hb2 cb
  have cc := own_f_cell ho2 0 (by decide)
  simp only [List.getD] at cc
  clear ho2 hb2
  go_wp2_with (fail)
  refine (chance_ok _ _ W13 _ _ L1 4603241769126068224 _ (Kd.C_alloc (C_lit2 w2 _ _) _) (by decide) (by decide) (by decide) (C_litP _ _ _ _ _ _ (by simp)) (by decide) (by decide) k6.1 k3).mono ?_
  rintro e w3 ⟨rfl, hb3⟩
  replace hb3 := below_step (below_alloc (below_alloc (Below.refl _ _) _) _) hb3
  replace HB1 := Aside0.mk (below_step HB1.out hb3)
  replace ca := pw_cell_below hb3 ca
  replace cb := pw_cell_below hb3 cb
  replace cc := pw_cell_below hb3 cc
  clear hb3
  go_wp2_with (fail)
  refine (odds_Exact.calls 40 _ _ L2 false [1] [6] 0 _ (C_litP _ _ _ _ _ _ rfl) (by decide) k5).mono ?_
  rintro e w4 ⟨v4, v5, rfl, ho4, ho5, hb4⟩
  obtain ⟨A4, c4, e4, hl4, hc4⟩ := Kd.R_reads ho4
  obtain ⟨A5, c5, e5, hl5, hc5⟩ := Kd.R_reads ho5
  subst e4 e5
  replace hb4 := below_step (below_alloc (Below.refl _ _) _) hb4
  replace HB1 := Aside0.mk (below_step HB1.out hb4)
  replace ca := pw_cell_below hb4 ca
  replace cb := pw_cell_below hb4 cb
  replace cc := pw_cell_below hb4 cc
  have HC4 := Aside0.mk hc4
  have HC5 := Aside0.mk hc5
  clear hb4 ho4 ho5 hc4 hc5
  go_wp2_with (fail)
  refine (sibylref02_Text.calls 100 false A4 c4 [1] A5 c5 [6] ⟨#[49, 47, 54]⟩ 0 _ (Kd.C_alloc HC4.out _) hl4 (Kd.C_alloc HC5.out _) hl5 k7).mono ?_
  rintro e w5 ⟨rfl, hb5⟩
  replace hb5 := below_step (below_alloc (Below.refl _ _) _) hb5
  replace HB1 := Aside0.mk (below_step HB1.out hb5)
  replace ca := pw_cell_below hb5 ca
  replace cb := pw_cell_below hb5 cb
  replace cc := pw_cell_below hb5 cc
  clear hb5
  have q1 : (FloatKind.f64.format.order 4598175219545276416 4598175219545276416 == some .eq) = true := by decide +kernel
  have q2 : (FloatKind.f64.format.order 4604930618986332160 4604930618986332160 == some .eq) = true := by decide +kernel
  have q3 : (FloatKind.f64.format.order 4602678819172646912 4602678819172646912 == some .eq) = true := by decide +kernel
  have q4 : (FloatKind.f64.format.order 4603241769126068224 4603241769126068224 == some .eq) = true := by decide +kernel
  have q5 : (FloatKind.f64.format.order 9218868437227405312 9218868437227405311 == some .gt) = true := by decide +kernel
  simp only [List.getElem?_cons_zero, List.getElem?_cons_succ, Option.getD_some] at ca cb cc
  go_wp2_with (fail)
  refine (total_calls _ _ [9214871658872686752, 9214871658872686752] _ (C_lit2 w5 _ _) (by decide)).mono ?_
  rw [k4]
  rintro e w6 ⟨rfl, ⟨n6, rfl⟩⟩
  go_wp2_with (fail)
  go_ret
  exact ⟨rfl, pw_below_drewN (below_alloc HB1.out _) _⟩
end Go.Proofs.Ytjppanekddljbaa.H
/- The walk of OddsTotals: of a slice of whole 64-bit numbers, of at most 2^44 of them, the Go code returns true, and nothing that stood before has changed. -/
namespace Go.Proofs.Ytjppanekddljbaa.H
open Go.RowKit Go.Proofs.Ytjppanekddljbaa.Pr Go.Proofs.YtjppanekddljbaaW.PrintWords Go.Proofs.YtjppanekddljbaaW.PrintLast Go.Proofs.YtjppanekddljbaaW.PrintMore
open Go.Proofs.Ytjppanekddljbaa.Fl Go.Proofs.Ytjppanekddljbaa.Lb
theorem u64_nat {l : List Int} (h : ∀ x ∈ l, (Lit.int .u64 x).wf = true) : l = U (l.map Int.toNat) ∧ ∀ x ∈ l.map Int.toNat, x < 18446744073709551616 := by
  induction l with
  | nil => exact ⟨rfl, fun x h => by simp at h⟩
  | cons a l ih =>
    obtain ⟨e, hl⟩ := ih fun x hx => h x (by simp [hx])
    have ha := h a (by simp)
    rw [Lit.wf_int_iff] at ha; have e1 : IntKind.u64.min = 0 := rfl; have e2 : IntKind.u64.max = 18446744073709551615 := rfl; rw [e1, e2] at ha
    refine ⟨?_, fun x hx => ?_⟩
    · have h1 : ((a.toNat : Nat) : Int) = a := by omega
      simp only [U, List.map_cons, h1]
      rw [← show U (l.map Int.toNat) = (l.map Int.toNat).map (Nat.cast : Nat → Int) from rfl, ← e]
    · simp only [List.map_cons, List.mem_cons] at hx
      rcases hx with rfl | hx
      · omega
      · exact hl x hx
set_option maxHeartbeats 4000000 in
set_option maxRecDepth 100000 in
theorem totals_calls (A : Option Addr) (c : Nat) (l : List Int) (w : World) (hr : Kd.C (Kd.int .u64) w A l.length l) (hc : l.length ≤ c) (hl : l.length ≤ 17592186044416)
    (hwf : ∀ x ∈ l, (Lit.int .u64 x).wf = true) :
    Calls Try.prog 4 #[.slice A l.length c] w fun e w' => e = .returned (.bool true) ∧ Below w.heap.size w w' := by
  obtain ⟨eU, hN⟩ := u64_nat hwf
  have hev := total_ev hN (by simpa using hl)
  rw [← eU] at hev
  obtain ⟨k, hk⟩ := hev.rounds
  obtain ⟨z, hz⟩ : ∃ z, z = sumC (l.map Int.toNat) := ⟨_, rfl⟩
  rw [← hz] at hk
  have HZ : Aside0 ((sumF (l.map Int.toNat)).getD 9221120237041090561 = z) := ⟨hz.symm⟩
  have HK := Aside0.mk hk
  have HWF := Aside0.mk hwf
  clear hz eU hev hk hN hwf
  have hbits := run_bits
  go_enter Try.func4, Try.ntmps4
  go_wp2_with (fail)
  refine (wakes_calls w).mono ?_
  rintro e w1 ⟨rfl, hb1⟩
  have HR := Aside0.mk (Kd.C_below hr hb1)
  go_wp2_with (fail)
  refine (floats_calls A c l w1 HR.out hc hl).mono ?_
  rintro e w2 ⟨v2, rfl, ho2, hb2⟩
  obtain ⟨A2, c2, e2, hl2, hc2⟩ := Kd.R_reads ho2
  subst e2
  have HB := Aside0.mk (below_step hb1 hb2)
  have HR2 := Aside0.mk (Kd.C_below HR.out hb2)
  have HC2 := Aside0.mk hc2
  clear hb1 hb2 ho2 hc2 HR hr
  go_wp2_with (fail)
  have ht := total_calls _ _ (l.map Int.toNat) _ HC2.out hl2
  rw [HZ.out, List.length_map] at ht
  refine ht.mono ?_
  clear ht HZ
  rintro e w3 ⟨rfl, ⟨n3, rfl⟩⟩
  go_wp2_with (fail)
  have hk := HK.out
  have ht := sibylref21_Total.calls k A c l (z : Int) (w2.drewN n3) (Kd.C_drewN HR2.out n3) hc hk
  clear hk
  refine ht.mono ?_
  clear ht
  rintro e w4 ⟨rfl, hb4⟩
  have HB4 := Aside0.mk (below_step (pw_below_drewN HB.out _) hb4)
  clear hb4
  go_wp2_with (fail)
  go_ret
  exact ⟨by simp, HB4.out⟩
end Go.Proofs.Ytjppanekddljbaa.H
namespace Go.Proofs.YtjppanekddljbaaW.PrintWords
open Go.ChangeShapes Go.WideShapes
/-- A row's slice of whole numbers is no longer than its weight allows. -/
theorem sized_ints {H : Type} {enc : TypeId × Value → H} {P : Program} {W : World} {base : Nat} {spare : Nat → Bool} {held : Bool} {t e : TypeId} {k : IntKind} {a : Option Addr} {len cap : Nat} {d : DataW H} {ps : List MemPlace} {ts : List TypeId} {ds : List (DataW H)} {j : Nat}
    (hsz : (DataW.weightsEach P ts ds).all (· ≤ reachBytes) = true) (ht : ts[j]? = some t) (hd : ds[j]? = some d) (hu : P.underlying t = some (.slice e)) (he : P.underlying e = some (.int k)) (hc : P.cellsOf e = 1) {B : Nat} (hB : P.bytesOf e = B)
    (h : DataW.Trod enc P W base spare held t (.slice a len cap) d ps) : len * B ≤ 140737488351232 := by
  obtain ⟨fuel, hf⟩ := h
  rcases open_ints hu he hc hf with ⟨hcs, _⟩ | ⟨x, l, c, zs, hcs, _, hl, _, hz, hx, _, _⟩
  · simp [Value.cells] at hcs
    obtain ⟨rfl, rfl, rfl⟩ := hcs
    simp
  · simp [Value.cells] at hcs
    obtain ⟨rfl, rfl, rfl⟩ := hcs
    obtain ⟨hx, _⟩ := Prod.mk.inj hx
    subst hx
    have z := sized_slice hsz ht hd hu
    rw [hB] at z
    have hl2 : len ≤ zs.length := by
      rw [hz]
      split
      · exact hl
      · exact Nat.le_refl _
    have h1 : (lits (H := H) k (zs.take len)).length + (lits (H := H) k (zs.drop len)).length = zs.length := by
      simp [lits]
      omega
    rw [h1] at z
    exact Nat.le_trans (Nat.mul_le_mul_right _ hl2) z
end Go.Proofs.YtjppanekddljbaaW.PrintWords
/- OddsTotals returns true whatever the input, and the input reads as it did. Conditions: none but those of the given row. -/
namespace Go.Proofs.Ytjppanekddljbaa.oddsTotals
open Go.ChangeShapes Go.WideShapes Go.ChangeAt Go.RowKit
open Go.ChangeMaps (open_string shut_string)
open Go.Proofs.YtjppanekddljbaaW
theorem own : ownKnob Try.prog.godebug = none := by kernel_rfl
theorem laidOut : laidOutB Try.prog = true := by kernel_rfl
def IsRow (k : IntKind) (w : World) (a : Option Addr) (len cap : Nat) (zs : List Int) : Prop :=
  (a = none ∧ len = 0 ∧ cap = 0 ∧ zs = []) ∨
  ∃ x, a = some x ∧ len ≤ cap ∧ cap ≤ maxLen ∧ zs.length = cap ∧ (∀ i, i < zs.length → w.cell? (x.add i) = some (.int k (zs.getD i 0))) ∧ ∀ n ∈ zs, (Lit.int k n).wf = true
set_option maxRecDepth 100000 in
theorem lifted (os : Os) (started : os.Started) (H : Type) (enc : TypeId × Value → H) :
    ReturnsInHanded {} Try.checked os 4 .any (Rows.oddsTotalsSpec.pre6 enc Try.prog Try.f4 Rows.oddsTotalsRow.domain false) (Rows.oddsTotalsSpec.post enc Try.prog Try.f4 false true false false) := by
  refine returnsInHanded_of_change_sized (C := Try.checked) own started (by kernel_rfl) Try.func4
    (ChangeSpec.witness6 (enc := enc) (C := Try.checked) false ⟨#[], #[.slice none 0 0], []⟩ 8 (by kernel_rfl) (by kernel_rfl) (by kernel_rfl) (by kernel_rfl)) ?_
  intro W base args ds gs before hval0 hW hcnd hsz0 _
  have hsz : (DataW.weightsEach Try.prog (Try.f4.params.toList ++ Rows.oddsTotalsSpec.plain.varTypes Try.prog) (ds ++ gs)).all (· ≤ reachBytes) = true := hsz0
  have hval : ∀ (j : Nat) t v, Try.f4.params[j]? = some t → args[j]? = some v → Value.okWide Try.prog W .any base t v := hval0
  have hW' := hW
  obtain ⟨p, q, hA0, hV, rfl, hfz, hnd⟩ := hW
  have hA : DataW.TrodAll enc Try.prog W 0 (fun _ => true) true Try.f4.params.toList args.toList ds p := hA0
  rw [Try.params4] at hA hval hsz
  obtain ⟨v0, vs0, d0, ds0, p0, q0, hargs, rfl, rfl, h0, r0⟩ := trodAll_cons hA
  obtain ⟨rfl, rfl, rfl⟩ := trodAll_nil r0
  obtain rfl : args = #[v0] := by cases args; simp_all
  obtain ⟨rfl, rfl⟩ := trodVars_none hV
  obtain ⟨a0, len0, cap0, rfl⟩ := okWide_slice Try.underlying22 (hval 0 22 v0 rfl rfl)
  have k0 := h0
  have lt0 : ∀ x ∈ p0, x.block < W.heap.size := by obtain ⟨m, hm⟩ := k0; exact DataW.trod_lt m _ _ _ hm
  obtain ⟨z0, w0⟩ : ∃ zs, IsRow .u64 W a0 len0 cap0 zs := by
    obtain ⟨fuel, hf⟩ := h0
    rcases open_ints Try.underlying22 Try.underlying31 (by kernel_rfl) hf with ⟨hcs, _⟩ | ⟨x, l, c, zs, hcs, _, hl, hm, hz, _, hcell, hwz⟩
    · simp [Value.cells] at hcs
      obtain ⟨rfl, rfl, rfl⟩ := hcs
      exact ⟨[], .inl ⟨rfl, rfl, rfl, rfl⟩⟩
    · simp [Value.cells] at hcs
      obtain ⟨rfl, rfl, rfl⟩ := hcs
      exact ⟨zs, .inr ⟨_, rfl, hl, hm, by simpa using hz, hcell, hwz⟩⟩
  have y0 : len0 * 8 ≤ 140737488351232 := PrintWords.sized_ints hsz (j := 0) (t := 22) rfl rfl Try.underlying22 Try.underlying31 (by kernel_rfl) (by kernel_rfl) h0
  clear hA0 hval0 hsz0 hsz
  obtain ⟨l0, rfl, hr0, hm0, hw0, hc0⟩ := PrintWords.ReadsInt.ofRowC w0
  refine (Go.Proofs.Ytjppanekddljbaa.H.totals_calls a0 cap0 l0 W (PrintWords.Kd.C_of_reads (d := (0 : Int)) (h1 := fun _ => rfl) hr0) hc0 (by omega) hw0).mono fun e W' ⟨he, bel⟩ => ?_
  subst he
  exact ⟨_, rfl, _, _, _, [], _, [], hW', trodAll_mk1 (shut_bool Try.underlying4 _), (trodAll_cons_mk (Below.trod laidOut (by kernel_rfl) (of_decide_eq_true (by kernel_rfl)) k0 bel lt0) trodAll_mk0), rfl, bel.frame _, fun h => by cases h⟩
theorem over : Rows.oddsTotalsRow.holds Try.pinned (OpenSpec.ofChange Rows.oddsTotalsSpec) :=
  OpenClaim.holds_of_wide 4 Try.f4 rfl rfl rfl rfl rfl rfl rfl ⟨rfl, rfl, rfl, rfl, rfl⟩ rfl rfl rfl rfl rfl (by kernel_rfl) Try.func4 (by kernel_rfl)
    (of_decide_eq_true (by kernel_rfl)) (by unfold Func.isWrapper; first | (rw [if_pos (by decide +kernel)]; kernel_rfl) | (rw [if_neg (by decide +kernel)]; exact ⟨rfl, rfl⟩))
    (fun os started H enc _ => lifted os started H enc)
theorem proved : Rows.OddsTotalsSaid := over
end Go.Proofs.Ytjppanekddljbaa.oddsTotals
namespace Go.Proofs.Ytjppanekddljbaa
/-- The row, under a short name, for the claim. -/
theorem oddsTotals_holds : Rows.OddsTotalsSaid := oddsTotals.proved
end Go.Proofs.Ytjppanekddljbaa
#print axioms Go.Proofs.Ytjppanekddljbaa.oddsTotals_holds
