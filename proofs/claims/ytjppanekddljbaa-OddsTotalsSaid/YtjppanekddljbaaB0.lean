/- Limbs, plain: a number's limbs, the least first. -/
namespace Go.Proofs.Ytjppanekddljbaa.Lb
set_option linter.unusedVariables false
set_option linter.unusedSimpArgs false

def val : List Nat → Nat
  | [] => 0
  | x :: l => x + 4294967296 * val l
def Lim (l : List Nat) : Prop := ∀ x ∈ l, x < 4294967296
def norm (n : Nat) : List Nat := if h : n = 0 then [] else n % 4294967296 :: norm (n / 4294967296)
  termination_by n
  decreasing_by omega

theorem norm_zero : norm 0 = [] := by rw [norm]; rfl
theorem norm_pos {n : Nat} (h : n ≠ 0) : norm n = n % 4294967296 :: norm (n / 4294967296) := by rw [norm, dif_neg h]
theorem lim_nil : Lim [] := fun _ h => by cases h
theorem lim_cons {x : Nat} {l : List Nat} : Lim (x :: l) ↔ x < 4294967296 ∧ Lim l :=
  ⟨fun h => ⟨h x (List.mem_cons_self ..), fun y hy => h y (List.mem_cons_of_mem _ hy)⟩, fun h y hy => by
    rcases List.mem_cons.1 hy with rfl | hy
    · exact h.1
    · exact h.2 y hy⟩
theorem lim_append {a b : List Nat} (ha : Lim a) (hb : Lim b) : Lim (a ++ b) := fun x hx => (List.mem_append.1 hx).elim (ha x) (hb x)
theorem lim_one {x : Nat} (h : x < 4294967296) : Lim [x] := fun y hy => by obtain rfl := List.mem_singleton.1 hy; exact h
theorem lim_take {l : List Nat} (h : Lim l) (n : Nat) : Lim (l.take n) := fun x hx => h x (List.mem_of_mem_take hx)
theorem lim_get {l : List Nat} (h : Lim l) (i : Nat) : l.getD i 0 < 4294967296 := by
  rcases Nat.lt_or_ge i l.length with h1 | h1
  · rw [List.getD, List.getElem?_eq_getElem h1]; exact h _ (List.getElem_mem h1)
  · rw [List.getD, List.getElem?_eq_none h1]; decide

theorem norm_spec (n : Nat) : val (norm n) = n ∧ Lim (norm n) := by
  induction n using Nat.strongRecOn with
  | ind n ih =>
    by_cases h : n = 0
    · subst h; rw [norm_zero]; exact ⟨rfl, lim_nil⟩
    · rw [norm_pos h]
      obtain ⟨h1, h2⟩ := ih (n / 4294967296) (by omega)
      refine ⟨?_, lim_cons.2 ⟨Nat.mod_lt _ (by decide), h2⟩⟩
      rw [val, h1]
      omega
theorem val_norm (n : Nat) : val (norm n) = n := (norm_spec n).1
theorem lim_norm (n : Nat) : Lim (norm n) := (norm_spec n).2

theorem val_append (a b : List Nat) : val (a ++ b) = val a + 4294967296 ^ a.length * val b := by
  induction a with
  | nil => simp [val]
  | cons x a ih =>
    rw [List.cons_append, val, val, ih, List.length_cons, Nat.pow_succ, Nat.mul_add]
    have : 4294967296 * (4294967296 ^ a.length * val b) = 4294967296 ^ a.length * 4294967296 * val b := by rw [← Nat.mul_assoc, Nat.mul_comm 4294967296]
    omega
theorem val_snoc (a : List Nat) (x : Nat) : val (a ++ [x]) = val a + 4294967296 ^ a.length * x := by rw [val_append]; simp [val]
theorem val_lt {l : List Nat} (h : Lim l) : val l < 4294967296 ^ l.length := by
  induction l with
  | nil => simp [val]
  | cons x l ih =>
    obtain ⟨h1, h2⟩ := lim_cons.1 h
    have := ih h2
    rw [val, List.length_cons, Nat.pow_succ]
    have h3 : 4294967296 * (val l + 1) ≤ 4294967296 * 4294967296 ^ l.length := Nat.mul_le_mul_left _ this
    rw [Nat.mul_comm (4294967296 ^ l.length)]
    omega
theorem val_replicate (n : Nat) : val (List.replicate n 0) = 0 := by
  induction n with
  | zero => rfl
  | succ n ih => rw [List.replicate_succ, val, ih]
theorem lim_replicate (n : Nat) : Lim (List.replicate n 0) := fun x hx => by rw [(List.mem_replicate.1 hx).2]; decide
theorem val_take_succ {l : List Nat} {i : Nat} (h : i < l.length) : val (l.take (i + 1)) = val (l.take i) + 4294967296 ^ i * l.getD i 0 := by
  rw [List.take_succ_eq_append_getElem h, val_snoc, List.length_take, Nat.min_eq_left (by omega), List.getD, List.getElem?_eq_getElem h]
  rfl

/-- limbs whose last is no nought are a number's own -/
theorem norm_val {l : List Nat} (h : Lim l) (hl : l = [] ∨ ∃ a x, l = a ++ [x] ∧ x ≠ 0) : norm (val l) = l := by
  induction l with
  | nil => exact norm_zero
  | cons x l ih =>
    obtain ⟨h1, h2⟩ := lim_cons.1 h
    have hpos : 0 < val (x :: l) := by
      rcases hl with hl | ⟨a, y, hl, hy⟩
      · cases hl
      · rw [hl, val_snoc]
        have : 0 < 4294967296 ^ a.length * y := Nat.mul_pos (Nat.pow_pos (by decide)) (by omega)
        omega
    have hl' : l = [] ∨ ∃ a x, l = a ++ [x] ∧ x ≠ 0 := by
      rcases hl with hl | ⟨a, y, hl, hy⟩
      · cases hl
      · cases a with
        | nil => left; simp at hl; exact hl.2
        | cons z a => right; exact ⟨a, y, by simpa using (List.cons.inj hl).2, hy⟩
    have hih := ih h2 hl'
    rw [norm_pos (by omega), val]
    rw [show (x + 4294967296 * val l) % 4294967296 = x from by omega, show (x + 4294967296 * val l) / 4294967296 = val l from by omega, hih]
theorem norm_last (n : Nat) : norm n = [] ∨ ∃ a x, norm n = a ++ [x] ∧ x ≠ 0 := by
  induction n using Nat.strongRecOn with
  | ind n ih =>
    by_cases h : n = 0
    · subst h; left; exact norm_zero
    · right
      rw [norm_pos h]
      rcases ih (n / 4294967296) (by omega) with h1 | ⟨a, x, h1, h2⟩
      · refine ⟨[], n % 4294967296, by rw [h1]; rfl, ?_⟩
        have : n / 4294967296 = 0 := by have := val_norm (n / 4294967296); rw [h1] at this; exact this.symm
        omega
      · exact ⟨n % 4294967296 :: a, x, by rw [h1]; rfl, h2⟩
theorem norm_length_le {n m : Nat} (h : n < 4294967296 ^ m) : (norm n).length ≤ m := by
  induction m generalizing n with
  | zero => rw [show n = 0 from by simpa using h, norm_zero]; exact Nat.le_refl _
  | succ m ih =>
    by_cases h0 : n = 0
    · subst h0; rw [norm_zero]; exact Nat.zero_le _
    · rw [norm_pos h0, List.length_cons]
      have := ih (n := n / 4294967296) (by
        rw [Nat.pow_succ] at h
        exact Nat.div_lt_of_lt_mul (by rw [Nat.mul_comm]; exact h))
      omega
theorem norm_length_ge {n : Nat} (h : n ≠ 0) : 4294967296 ^ ((norm n).length - 1) ≤ n := by
  rcases norm_last n with h1 | ⟨a, x, h1, h2⟩
  · rw [← val_norm n, h1] at h; exact absurd rfl h
  · have hv := val_norm n
    rw [h1, val_snoc] at hv
    rw [h1, List.length_append, List.length_singleton, Nat.add_sub_cancel]
    have : 4294967296 ^ a.length * 1 ≤ 4294967296 ^ a.length * x := Nat.mul_le_mul_left _ (by omega)
    omega
end Go.Proofs.Ytjppanekddljbaa.Lb
