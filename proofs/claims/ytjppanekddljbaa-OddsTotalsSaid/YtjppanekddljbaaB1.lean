/- What the reference's limb functions answer (their printed forms), over numbers. -/
import Derived.Test.YtjppanekddljbaaA1
import Derived.Test.YtjppanekddljbaaB0
namespace Go.Proofs.Ytjppanekddljbaa.Lb
set_option linter.unusedVariables false
set_option linter.unusedSimpArgs false
open Go.RowKit Go.Proofs.Ytjppanekddljbaa.Pr Go.Proofs.YtjppanekddljbaaW.PrintWords Go.Proofs.YtjppanekddljbaaW.PrintLast Go.Proofs.YtjppanekddljbaaW.PrintMore

def U (l : List Nat) : List Int := l.map (Nat.cast : Nat → Int)
theorem U_length (l : List Nat) : (U l).length = l.length := by simp [U]
theorem U_append (a b : List Nat) : U (a ++ b) = U a ++ U b := by simp [U]
theorem U_one (x : Nat) : U [x] = [(x : Int)] := rfl
theorem U_set (l : List Nat) (i x : Nat) : (U l).set i (x : Int) = U (l.set i x) := by simp [U, List.map_set]
theorem U_replicate (n : Nat) : U (List.replicate n 0) = List.replicate n 0 := by simp [U]
theorem rd_U (l : List Nat) (i : Nat) : rd (U l) (i : Int) = ((l.getD i 0 : Nat) : Int) := by
  simp only [rd, Int.toNat_natCast, U, List.getD]
  rcases Nat.lt_or_ge i l.length with h | h
  · rw [List.getElem?_eq_getElem (by simpa using h), List.getElem?_eq_getElem h]; simp
  · rw [List.getElem?_eq_none (by simpa using h), List.getElem?_eq_none h]; rfl
theorem w64 {x : Int} (h0 : -9223372036854775808 ≤ x) (h1 : x ≤ 9223372036854775807) : wrap64 x = x := by unfold wrap64; omega
theorem wu64 {x : Int} (h0 : 0 ≤ x) (h1 : x < 18446744073709551616) : IntKind.u64.wrap x = x := by simp [IntKind.wrap, IntKind.bits, IntKind.signed]; omega

/-! Trim -/
theorem trim_copy (l : List Nat) (n : Nat) (hn : n ≤ l.length) (hl : l.length ≤ 1000000) (d : Nat) : ∀ (j : Nat) (x : List Int), j ≤ n → n - j = d → x.length = j →
    Ev (fun k => sibylref01_Trim.l1 k (U l) (n : Int) x (j : Int)) (x ++ U ((l.take n).drop j)) := by
  induction d with
  | zero =>
    intro j x hj hd hx
    refine Ev.step (f := fun _ => some x) (fun k => by simp only [sibylref01_Trim.l1]; rw [if_neg (by omega)]) ?_
    rw [List.drop_of_length_le (by simp; omega)]
    simpa [U] using Ev.now x
  | succ d ih =>
    intro j x hj hd hx
    have h1 : j < n := by omega
    refine Ev.step (f := fun k => sibylref01_Trim.l1 k (U l) (n : Int) (x ++ [((l.getD j 0 : Nat) : Int)]) ((j + 1 : Nat) : Int)) (fun k => ?_) ?_
    · simp only [sibylref01_Trim.l1]
      rw [if_pos (by omega), if_pos (by omega), if_pos (by rw [U_length]; omega), if_pos (by omega), rd_U, w64 (by omega) (by omega)]
      rfl
    · have h2 := ih (j + 1) (x ++ [((l.getD j 0 : Nat) : Int)]) (by omega) (by omega) (by simp [hx])
      have h3 : (l.take n).drop j = l.getD j 0 :: (l.take n).drop (j + 1) := by
        rw [List.drop_eq_getElem_cons (by simp; omega)]
        congr 1
        simp [List.getD, show j < l.length by omega]
      rw [h3]
      simpa [U] using h2
theorem trim_loop (l : List Nat) (hL : Lim l) (hl : l.length ≤ 1000000) : ∀ n, n ≤ l.length → Ev (fun k => sibylref01_Trim.l0 k (U l) (n : Int)) (U (norm (val (l.take n)))) := by
  intro n
  induction n with
  | zero =>
    intro _
    refine Ev.step (f := fun k => sibylref01_Trim.j1 k (U l) (0 : Int)) (fun k => by simp only [sibylref01_Trim.l0]; rw [if_neg (by omega)]; rfl) ?_
    refine Ev.step (f := fun k => sibylref01_Trim.l1 k (U l) ((0 : Nat) : Int) [] ((0 : Nat) : Int)) (fun k => by simp only [sibylref01_Trim.j1]; rfl) ?_
    have := trim_copy l 0 (by omega) hl 0 0 [] (by omega) (by omega) rfl
    simpa [val, norm_zero, U] using this
  | succ n ih =>
    intro hn
    have hval := val_take_succ (l := l) (i := n) (by omega)
    by_cases h0 : l.getD n 0 = 0
    · refine Ev.step (f := fun k => sibylref01_Trim.l0 k (U l) (n : Int)) (fun k => ?_) ?_
      · simp only [sibylref01_Trim.l0]
        have hw : wrap64 (((n + 1 : Nat) : Int) - 1) = (n : Int) := by unfold wrap64; omega
        rw [if_pos (by omega), hw, if_pos (by omega), if_pos (by rw [U_length]; omega), rd_U, if_pos (by rw [h0]; rfl)]
      · rw [hval, h0, Nat.mul_zero, Nat.add_zero]
        exact ih (by omega)
    · refine Ev.step (f := fun k => sibylref01_Trim.j1 k (U l) ((n + 1 : Nat) : Int)) (fun k => ?_) ?_
      · simp only [sibylref01_Trim.l0]
        have hw : wrap64 (((n + 1 : Nat) : Int) - 1) = (n : Int) := by unfold wrap64; omega
        rw [if_pos (by omega), hw, if_pos (by omega), if_pos (by rw [U_length]; omega), rd_U, if_neg (by omega)]
      · refine Ev.step (f := fun k => sibylref01_Trim.l1 k (U l) ((n + 1 : Nat) : Int) [] ((0 : Nat) : Int)) (fun k => by simp only [sibylref01_Trim.j1]; rfl) ?_
        have h1 := trim_copy l (n + 1) (by omega) hl (n + 1) 0 [] (by omega) (by omega) rfl
        have h2 : norm (val (l.take (n + 1))) = l.take (n + 1) := norm_val (lim_take hL _) (.inr ⟨l.take n, l.getD n 0, by rw [List.take_succ_eq_append_getElem (by omega), List.getD, List.getElem?_eq_getElem (by omega)]; rfl, h0⟩)
        rw [h2]
        simpa using h1
theorem trim_ev {l : List Nat} (hL : Lim l) (hl : l.length ≤ 1000000) : Ev (fun k => sibylref01_Trim.f k (U l)) (U (norm (val l))) := by
  have h := trim_loop l hL hl l.length (Nat.le_refl _)
  rw [List.take_length] at h
  simpa [sibylref01_Trim.f, U_length] using h

/-! Cmp -/
theorem val_lt_of_top {a b : List Nat} (ha : Lim a) (_hb : Lim b) {i : Nat} (h1 : i < a.length) (h2 : i < b.length) (h : a.getD i 0 < b.getD i 0) (ht : a.drop (i + 1) = b.drop (i + 1)) : val a < val b := by
  have ea : a = a.take (i + 1) ++ a.drop (i + 1) := (List.take_append_drop _ _).symm
  have eb : b = b.take (i + 1) ++ b.drop (i + 1) := (List.take_append_drop _ _).symm
  rw [ea, eb, val_append, val_append, ht]
  have l1 : (a.take (i + 1)).length = i + 1 := by simp; omega
  have l2 : (b.take (i + 1)).length = i + 1 := by simp; omega
  rw [l1, l2, val_take_succ h1, val_take_succ h2]
  have h3 := val_lt (lim_take ha i)
  rw [show (a.take i).length = i by simp; omega] at h3
  have h4 : 4294967296 ^ i * (a.getD i 0 + 1) ≤ 4294967296 ^ i * b.getD i 0 := Nat.mul_le_mul_left _ h
  rw [Nat.mul_add, Nat.mul_one] at h4
  omega
theorem cmp_loop {a b : List Nat} (ha : Lim a) (hb : Lim b) (hab : a.length = b.length) (hl : a.length ≤ 1000000) : ∀ n, n ≤ a.length → a.drop n = b.drop n →
    Ev (fun k => sibylref01_Cmp.l0 k (U a) (U b) ((n : Int) - 1)) (if val a < val b then -1 else if val a > val b then 1 else 0) := by
  intro n
  induction n with
  | zero =>
    intro _ he
    rw [List.drop_zero, List.drop_zero] at he
    subst he
    refine Ev.step (f := fun _ => some 0) (fun k => by simp only [sibylref01_Cmp.l0]; rw [if_neg (by omega)]) ?_
    rw [if_neg (by omega), if_neg (by omega)]
    exact Ev.now _
  | succ n ih =>
    intro hn he
    have hi : (((n + 1 : Nat) : Int) - 1) = (n : Int) := by omega
    rw [hi]
    have step : ∀ k, sibylref01_Cmp.l0 (k + 1) (U a) (U b) (n : Int) = if ((a.getD n 0 : Nat) : Int) < ((b.getD n 0 : Nat) : Int) then some (-1) else if ((a.getD n 0 : Nat) : Int) > ((b.getD n 0 : Nat) : Int) then some 1 else sibylref01_Cmp.l0 k (U a) (U b) ((n : Int) - 1) := fun k => by
      simp only [sibylref01_Cmp.l0]
      rw [if_pos (by omega), if_pos (by omega), if_pos (by rw [U_length]; omega), if_pos (by rw [U_length]; omega), rd_U, rd_U, w64 (by omega) (by omega)]
    by_cases h1 : a.getD n 0 < b.getD n 0
    · have := val_lt_of_top ha hb (by omega) (by omega) h1 he
      refine Ev.step (f := fun _ => some (-1)) (fun k => by rw [step, if_pos (by omega)]) ?_
      rw [if_pos this]; exact Ev.now _
    · by_cases h2 : b.getD n 0 < a.getD n 0
      · have := val_lt_of_top hb ha (by omega) (by omega) h2 he.symm
        refine Ev.step (f := fun _ => some 1) (fun k => by rw [step, if_neg (by omega), if_pos (by omega)]) ?_
        rw [if_neg (by omega), if_pos this]; exact Ev.now _
      · refine Ev.step (f := fun k => sibylref01_Cmp.l0 k (U a) (U b) ((n : Int) - 1)) (fun k => by rw [step, if_neg (by omega), if_neg (by omega)]) ?_
        refine ih (by omega) ?_
        rw [List.drop_eq_getElem_cons (show n < a.length by omega), List.drop_eq_getElem_cons (show n < b.length by omega), he]
        congr 1
        simp [List.getD, show n < a.length by omega, show n < b.length by omega] at h1 h2
        omega
theorem norm_len_cmp {x y : Nat} (h : (norm x).length < (norm y).length) : x < y := by
  have h1 := val_lt (lim_norm x)
  rw [val_norm] at h1
  have hy : y ≠ 0 := fun h0 => by rw [h0, norm_zero] at h; simp at h
  have h2 := norm_length_ge hy
  have : 4294967296 ^ (norm x).length ≤ 4294967296 ^ ((norm y).length - 1) := Nat.pow_le_pow_right (by decide) (by omega)
  omega
theorem norm_len {l : List Nat} (hL : Lim l) : (norm (val l)).length ≤ l.length := norm_length_le (val_lt hL)
theorem cmp_ev {a b : List Nat} (ha : Lim a) (hb : Lim b) (hla : a.length ≤ 1000000) (hlb : b.length ≤ 1000000) :
    Ev (fun k => sibylref01_Cmp.f k (U a) (U b)) (if val a < val b then -1 else if val a > val b then 1 else 0) := by
  unfold sibylref01_Cmp.f
  refine Ev.bind (trim_ev ha hla) (Ev.bind (trim_ev hb hlb) ?_)
  have n1 := norm_len ha
  have n2 := norm_len hb
  rw [U_length, U_length]
  by_cases h1 : (norm (val a)).length < (norm (val b)).length
  · have := norm_len_cmp h1
    refine Ev.congr (f := fun _ => some (-1)) (fun k => if_pos (by omega)) ?_
    rw [if_pos this]; exact Ev.now _
  · by_cases h2 : (norm (val b)).length < (norm (val a)).length
    · have := norm_len_cmp h2
      refine Ev.congr (f := fun _ => some 1) (fun k => by rw [if_neg (by omega), if_pos (by omega)]) ?_
      rw [if_neg (by omega), if_pos this]; exact Ev.now _
    · refine Ev.congr (f := fun k => sibylref01_Cmp.l0 k (U (norm (val a))) (U (norm (val b))) (((norm (val a)).length : Int) - 1)) (fun k => by rw [if_neg (by omega), if_neg (by omega), w64 (by omega) (by omega)]) ?_
      have := cmp_loop (lim_norm (val a)) (lim_norm (val b)) (by omega) (by omega) (norm (val a)).length (Nat.le_refl _) (by rw [List.drop_length, List.drop_of_length_le (by omega)])
      rwa [val_norm, val_norm] at this
end Go.Proofs.Ytjppanekddljbaa.Lb
