/- The reference's Add and Total, of any floats. -/
import Derived.Test.YtjppanekddljbaaA4
import Derived.Test.YtjppanekddljbaaB7
import Derived.Test.YtjppanekddljbaaH8
namespace Go.Proofs.Ytjppanekddljbaa.Lb
set_option linter.unusedVariables false
set_option linter.unusedSimpArgs false
open Go.RowKit Go.Proofs.Ytjppanekddljbaa.Pr Go.Proofs.YtjppanekddljbaaW.PrintWords Go.Proofs.YtjppanekddljbaaW.PrintLast Go.Proofs.YtjppanekddljbaaW.PrintMore
open Go.Proofs.Ytjppanekddljbaa.Fl Ieee Go.Proofs.Ytjppanekddljbaa.H

theorem add_nan_right {x y : Nat} (h : isNaN y = true) : double.add x y = none := by
  unfold isNaN at h
  simp only [decide_eq_true_eq] at h
  unfold Format.add
  rw [read_nan y h]
  cases double.read x <;> rfl
theorem size_ev (x : Nat) : sibylref03_Size.f (x : Int) = some ((rung x : Nat) : Int) := by unfold sibylref03_Size.f; rw [tmod63]; rfl
theorem word_inf {x : Nat} (hx : x < 18446744073709551616) (h : rung x = 9218868437227405312) : double.write (.infinity (sgB x)) = x := by
  rw [show double.write (.infinity (sgB x)) = double.word (sgB x) double.infRung from rfl, dinf]
  have := word_eq hx
  rw [h] at this
  rw [this]
  have e : sgB (signedW (sgB x) 9218868437227405312) = sgB x := by rw [← this]
  rw [e]
  simp only [Format.word, dsw, signedW]
theorem read_infw {x : Nat} (hx : x < 18446744073709551616) (h : rung x = 9218868437227405312) : double.read x = .infinity (sgB x) := by
  rw [read_inf x h, sgB_div hx]
theorem add_ev {x y : Nat} (hx : x < 18446744073709551616) (hy : y < 18446744073709551616) : Ev (fun k => sibylref21_Add.f k (x : Int) (y : Int)) ((addC x y : Nat) : Int) := by
  have hj0 : ∀ t : Bool, t = true → Ev (fun k => sibylref21_Add.j0 k (x : Int) (y : Int) t) 9221120237041090561 := fun t ht => by
    refine Ev.step (f := fun _ => some 9221120237041090561) (fun k => ?_) (Ev.now _)
    simp only [sibylref21_Add.j0]
    exact if_pos ht
  by_cases nx : isNaN x = true
  · have : addC x y = 9221120237041090561 := by unfold addC; rw [add_nan_left nx]; rfl
    rw [this]
    refine Ev.congr (f := fun k => sibylref21_Add.j0 k (x : Int) (y : Int) true) (fun k => ?_) (hj0 true rfl)
    unfold sibylref21_Add.f
    rw [isNaN_ev, nx]
    rfl
  · replace nx := Bool.eq_false_iff.mpr nx
    refine Ev.congr (f := fun k => sibylref21_Add.j0 k (x : Int) (y : Int) (isNaN y)) (fun k => ?_) ?_
    · unfold sibylref21_Add.f
      rw [isNaN_ev, isNaN_ev, nx]
      rfl
    · by_cases ny : isNaN y = true
      · have : addC x y = 9221120237041090561 := by unfold addC; rw [add_nan_right ny]; rfl
        rw [this]
        exact hj0 _ ny
      · replace ny := Bool.eq_false_iff.mpr ny
        rw [ny]
        have rx : rung x ≤ 9218868437227405312 := by unfold isNaN at nx; have := of_decide_eq_false nx; unfold rung; omega
        have ry : rung y ≤ 9218868437227405312 := by unfold isNaN at ny; have := of_decide_eq_false ny; unfold rung; omega
        have j0eq : ∀ k, sibylref21_Add.j0 (k + 1) (x : Int) (y : Int) false = if ((rung x : Nat) : Int) = 9218868437227405312 then (if ((rung y : Nat) : Int) = 9218868437227405312 then sibylref21_Add.j1 k (x : Int) (y : Int) (((rung x : Nat) : Int) == 9218868437227405312) (((rung y : Nat) : Int) == 9218868437227405312) ((x : Int) != (y : Int)) else sibylref21_Add.j1 k (x : Int) (y : Int) (((rung x : Nat) : Int) == 9218868437227405312) (((rung y : Nat) : Int) == 9218868437227405312) false) else sibylref21_Add.j1 k (x : Int) (y : Int) (((rung x : Nat) : Int) == 9218868437227405312) (((rung y : Nat) : Int) == 9218868437227405312) false := fun k => by
          simp only [sibylref21_Add.j0]
          rw [if_neg (by decide), size_ev, size_ev]
          rfl
        by_cases ix : rung x = 9218868437227405312
        · have bx : (((rung x : Nat) : Int) == 9218868437227405312) = true := beq_iff_eq.mpr (by omega)
          by_cases iy : rung y = 9218868437227405312
          · have by_ : (((rung y : Nat) : Int) == 9218868437227405312) = true := beq_iff_eq.mpr (by omega)
            have hadd : double.add x y = if sgB x = sgB y then some x else none := by
              unfold Format.add
              rw [read_infw hx ix, read_infw hy iy]
              simp only [Datum.sum]
              split
              · rw [Option.map_some, word_inf hx ix]
              · rfl
            by_cases hs : sgB x = sgB y
            · have hxy : x = y := by rw [word_eq hx, word_eq hy, hs, ix, iy]
              have : addC x y = x := by unfold addC; rw [hadd, if_pos hs]; rfl
              rw [this]
              refine Ev.step2 (f := fun _ => some (x : Int)) (fun k => ?_) (Ev.now _)
              rw [j0eq, if_pos (by omega), if_pos (by omega), bx, by_, show ((x : Int) != (y : Int)) = false from by rw [hxy]; simp]
              simp only [sibylref21_Add.j1]
              rw [if_neg (by decide), if_pos trivial]
            · have hne : ((x : Int) != (y : Int)) = true := by
                rw [bne_iff_ne]
                intro h
                exact hs (by rw [show x = y by omega])
              have : addC x y = 9221120237041090561 := by unfold addC; rw [hadd, if_neg hs]; rfl
              rw [this]
              refine Ev.step2 (f := fun _ => some 9221120237041090561) (fun k => ?_) (Ev.now _)
              rw [j0eq, if_pos (by omega), if_pos (by omega), hne]
              simp only [sibylref21_Add.j1]
              rw [if_pos trivial]
          · have hadd : double.add x y = some x := by
              unfold Format.add
              rw [read_infw hx ix, read_word hy (by omega)]
              simp only [Datum.sum]
              rw [Option.map_some, word_inf hx ix]
            have : addC x y = x := by unfold addC; rw [hadd]; rfl
            rw [this]
            refine Ev.step2 (f := fun _ => some (x : Int)) (fun k => ?_) (Ev.now _)
            rw [j0eq, if_pos (by omega), if_neg (by omega), bx]
            simp only [sibylref21_Add.j1]
            rw [if_neg (by decide), if_pos trivial]
        · have bx : (((rung x : Nat) : Int) == 9218868437227405312) = false := beq_eq_false_iff_ne.mpr (by omega)
          by_cases iy : rung y = 9218868437227405312
          · have by_ : (((rung y : Nat) : Int) == 9218868437227405312) = true := beq_iff_eq.mpr (by omega)
            have hadd : double.add x y = some y := by
              unfold Format.add
              rw [read_word hx (by omega), read_infw hy iy]
              simp only [Datum.sum]
              rw [Option.map_some, word_inf hy iy]
            have : addC x y = y := by unfold addC; rw [hadd]; rfl
            rw [this]
            refine Ev.step2 (f := fun _ => some (y : Int)) (fun k => ?_) (Ev.now _)
            rw [j0eq, if_neg (by omega), bx, by_]
            simp only [sibylref21_Add.j1]
            rw [if_neg (by decide), if_neg (by decide), if_pos trivial]
          · have by_ : (((rung y : Nat) : Int) == 9218868437227405312) = false := beq_eq_false_iff_ne.mpr (by omega)
            refine Ev.step (f := fun k => sibylref21_Add.j1 k (x : Int) (y : Int) false false false) (fun k => ?_) (add_fin_ev hx hy (by omega) (by omega))
            rw [j0eq, if_neg (by omega), bx, by_]

/-! Total -/
theorem add_lt64 {x y r : Nat} (h : double.add x y = some r) : r < 18446744073709551616 := by
  unfold Format.add at h
  obtain ⟨d, hd, rfl⟩ := Option.map_eq_some_iff.1 h
  have hn := sum_not_nan hd
  cases d with
  | number s m e =>
    obtain ⟨r, hr, he⟩ := nearest_rung s m e
    rw [show double.write (.number s m e) = double.nearest s m e from rfl, he]
    split <;> omega
  | infinity s =>
    rw [show double.write (.infinity s) = double.word s double.infRung from rfl, dinf]
    simp only [Format.word, dsw]
    split <;> omega
  | nan => simp [Datum.isNaN] at hn
/-- the sum as the reference keeps it -/
def sumC (l : List Nat) : Nat := (sumF l).getD 9221120237041090561
theorem sumF_lt {l : List Nat} {a : Nat} (h : sumF l = some a) : a < 18446744073709551616 := by
  rcases List.eq_nil_or_concat l with rfl | ⟨l', x, rfl⟩
  · obtain rfl := Option.some.inj h; decide
  · rw [List.concat_eq_append, sumF_snoc] at h
    obtain ⟨b, _, hb⟩ := Option.bind_eq_some_iff.1 h
    exact add_lt64 hb
theorem sumC_lt (l : List Nat) : sumC l < 18446744073709551616 := by
  unfold sumC
  cases h : sumF l with
  | none => decide
  | some a => exact sumF_lt h
theorem sumC_snoc (l : List Nat) (x : Nat) : sumC (l ++ [x]) = addC (sumC l) x := by
  unfold sumC addC
  rw [sumF_snoc]
  cases sumF l with
  | none => rw [Option.bind_none, add_nan_left (x := Option.getD none 9221120237041090561) (by decide)]
  | some a => rfl
theorem total_loop {l : List Nat} (hl : ∀ x ∈ l, x < 18446744073709551616) (hlen : l.length ≤ 17592186044416) (d : Nat) : ∀ i, i ≤ l.length → l.length - i = d →
    Ev (fun k => sibylref21_Total.l0 k (U l) ((sumC (l.take i) : Nat) : Int) (i : Int)) ((sumC l : Nat) : Int) := by
  induction d with
  | zero =>
    intro i hi hd
    rw [List.take_of_length_le (by omega)]
    refine Ev.step (f := fun _ => some ((sumC l : Nat) : Int)) (fun k => ?_) (Ev.now _)
    simp only [sibylref21_Total.l0, U_length]
    rw [if_neg (by omega)]
  | succ d ih =>
    intro i hi hd
    have hlt : i < l.length := by omega
    have hw : wrap64 ((i : Int) + 1) = ((i + 1 : Nat) : Int) := by unfold wrap64; omega
    have hx : l.getD i 0 < 18446744073709551616 := by rw [List.getD, List.getElem?_eq_getElem hlt]; exact hl _ (List.getElem_mem hlt)
    have hs : sumC (l.take (i + 1)) = addC (sumC (l.take i)) (l.getD i 0) := by
      rw [List.take_succ_eq_append_getElem hlt, sumC_snoc, List.getD, List.getElem?_eq_getElem hlt]; rfl
    refine Ev.step (f := fun k => (sibylref21_Add.f k ((sumC (l.take i) : Nat) : Int) ((l.getD i 0 : Nat) : Int)).bind fun t => sibylref21_Total.l0 k (U l) t ((i + 1 : Nat) : Int)) (fun k => ?_) ?_
    · simp only [sibylref21_Total.l0, U_length]
      rw [if_pos (by omega), if_pos (by omega), rd_U, hw]
    · refine Ev.bind (add_ev (sumC_lt _) hx) ?_
      rw [← hs]
      exact ih (i + 1) (by omega) (by omega)
theorem total_ev {l : List Nat} (hl : ∀ x ∈ l, x < 18446744073709551616) (hlen : l.length ≤ 17592186044416) : Ev (fun k => sibylref21_Total.f k (U l)) ((sumC l : Nat) : Int) := by
  have := total_loop hl hlen l.length 0 (by omega) (by omega)
  exact this
end Go.Proofs.Ytjppanekddljbaa.Lb
