/- Shares: one weight's worth, float by float. -/
import Derived.Test.YtjppanekddljbaaH9
import Derived.Test.YtjppanekddljbaaF2
namespace Go.Proofs.Ytjppanekddljbaa.H
open Go.RowKit Go.Proofs.Ytjppanekddljbaa.Pr Go.Proofs.YtjppanekddljbaaW.PrintWords Go.Proofs.YtjppanekddljbaaW.PrintLast Go.Proofs.YtjppanekddljbaaW.PrintMore
open Go.Proofs.Ytjppanekddljbaa.Fl
set_option linter.unusedVariables false
set_option linter.unusedSimpArgs false

/-- a float is stored as any value of one cell is -/
theorem run_store_float {P : Program} (w : World) (a : Addr) (m : Mode) (k : FloatKind) (b : Nat) : (store a (.float k b) m).run P w = stored P w a (.float k b) m := run_store P w a _ m rfl

theorem worth_calls' (x : Nat) (h : x < 18446744073709551616) (w : World) :
    Calls Try.prog 47 #[.float .f64 x] w fun e w' => e = .returned (.float .f64 (worthF x)) ∧ Drawn0 w w' :=
  (worth_calls x w).mono fun _ _ ⟨he, hd⟩ => ⟨by rw [he]; exact congrArg (fun n => Ending.returned (Value.float .f64 n)) (worthF_eq h), hd⟩
/-- a row while it is filled -/
def rowAt (f : Nat → Nat) (g : Nat → Nat) (n i : Nat) : List Nat := (List.range n).map fun j => if j < i then f j else g j
theorem rowAt_set (f g : Nat → Nat) (n i : Nat) : (rowAt f g n i).set i (f i) = rowAt f g n (i + 1) := by
  apply List.ext_getElem
  · simp [rowAt]
  · intro j h1 h2
    simp only [rowAt, List.getElem_set, List.getElem_map, List.getElem_range]
    by_cases h : i = j
    · subst h; simp
    · rw [if_neg h]
      by_cases h3 : j < i
      · rw [if_pos h3, if_pos (by omega)]
      · rw [if_neg h3, if_neg (by omega)]
theorem rowAt_get (f g : Nat → Nat) {n i j : Nat} (h : j < n) : (rowAt f g n i).getD j 0 = if j < i then f j else g j := by simp [rowAt, List.getD, h]
theorem rowAt_zero (f : Nat → Nat) (n : Nat) : rowAt f (fun _ => 0) n 0 = List.replicate n 0 := by
  apply List.ext_getElem
  · simp [rowAt]
  · intro j h1 h2; simp [rowAt]
theorem rowAt_full (f g : Nat → Nat) (n : Nat) : rowAt f g n n = (List.range n).map f := by
  apply List.map_congr_left
  intro j hj
  rw [if_pos (List.mem_range.1 hj)]
theorem rowAt_next (f g h : Nat → Nat) (n : Nat) : rowAt f g n n = rowAt h f n 0 := by
  rw [rowAt_full]
  apply List.map_congr_left
  intro j hj
  rw [if_neg (by omega)]

/-- an element of an owned row of floats, read; and a store into it -/
theorem own_f_cell {W : World} {base g n cap : Nat} {ok : Nat → Prop} {xs : List Nat} (h : kf.R 25 W base ok (.slice (some ⟨g, 0, none⟩) n cap) xs) (i : Nat) (hi : i < n) : W.cell? ⟨g, i, none⟩ = some (.float .f64 (xs.getD i 0)) := by
  obtain ⟨A, c, e, hle, hc⟩ := Kd.R_reads h
  injection e with e1 e2 e3
  subst e1 e2
  obtain ⟨ad, e4, hx⟩ := at_f hc (i : Int) (by omega) (by omega)
  cases e4
  rw [add_plain] at hx
  simpa using hx
theorem own_f_set {W : World} {base g n cap : Nat} {ok : Nat → Prop} {xs : List Nat} (h : kf.R 25 W base ok (.slice (some ⟨g, 0, none⟩) n cap) xs) (i x : Nat) :
    kf.R 25 (W.setCell ⟨g, i, none⟩ (.float .f64 x)) base ok (.slice (some ⟨g, 0, none⟩) n cap) (xs.set i x) := by
  have hl : n = xs.length := by
    obtain ⟨A, c, e, _, _⟩ := Kd.R_reads h
    injection e with _ e2 _
  have ho := Kd.own_of_R (enc := Value.float .f64) h
  rw [← hl] at ho
  have h2 := (own_store_of ho (i : Int) x).1
  simp only [Int.toNat_natCast] at h2
  refine Kd.R_of_own (enc := Value.float .f64) ?_ h.1
  rw [List.length_set, ← hl]
  exact h2
theorem own_f_frozen {W : World} {base g n cap : Nat} {ok : Nat → Prop} {xs : List Nat} (h : kf.R 25 W base ok (.slice (some ⟨g, 0, none⟩) n cap) xs) (i : Nat) : W.frozen? ⟨g, i, none⟩ = false := by
  have hl : n = xs.length := by
    obtain ⟨A, c, e, _, _⟩ := Kd.R_reads h
    injection e with _ e2 _
  have ho := Kd.own_of_R (enc := Value.float .f64) h
  rw [← hl] at ho
  exact ho.frozenAt _
end Go.Proofs.Ytjppanekddljbaa.H
