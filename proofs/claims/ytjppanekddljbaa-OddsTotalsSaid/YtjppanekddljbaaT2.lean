/- OddsTotals returns true whatever the input, and the input reads as it did. Conditions: none but those of the given row (part 2) -/
import Ieee.Arith
import Derived.WalkLawsBesides
import Derived.Laws.StandIn
import Derived.Test.YtjppanekddljbaaT1
set_option linter.unusedVariables false
set_option linter.unusedSimpArgs false
/- What the kit's print wrote for these functions, taken together by wip/pick.py: each function's Lean function and that the Go code comes to it. -/
namespace Go.Proofs.Ytjppanekddljbaa.Pr
open Go.RowKit Go.Proofs.YtjppanekddljbaaW.PrintWords Go.Proofs.YtjppanekddljbaaW.PrintLast Go.Proofs.YtjppanekddljbaaW.PrintMore
attribute [local go_sem] max2_int min2_int max_two min_two max_three min_three max_four min_four
def sibylref21_Total.l0 : Nat → List Int → Int → Int → Option (Int)
  | 0, _, _, _ => none
  | k + 1, x0, x3, x4 => if x4 < (x0.length : Int) then (if 0 ≤ x4 then ((sibylref21_Add.f k x3 (rd x0 x4)).bind fun t425 => (sibylref21_Total.l0 k x0 t425 (wrap64 (x4 + 1)))) else (none)) else (some x3)
def sibylref21_Total.f (k : Nat) (l0 : List Int) : Option (Int) := sibylref21_Total.l0 k l0 0 0
set_option maxHeartbeats 8000000 in
set_option maxRecDepth 100000 in
theorem sibylref21_Total.calls (k : Nat) (A0 : Option Addr) (c0 : Nat) (l0 : List Int) (r : Int) (w : World) (hr0 : Kd.C (Kd.int .u64) w A0 l0.length l0) (hc0 : l0.length ≤ c0) (h : sibylref21_Total.f k l0 = some r) :
    Calls Try.prog 16 #[.slice A0 l0.length c0] w fun e w' => e = .returned (.int .u64 r) ∧ Below w.heap.size w w' := by
  have HR0 := Aside0.mk hr0
  have HC0 := Aside0.mk hc0
  clear hr0 hc0
  have HB := Aside0.mk (Below.refl w.heap.size w)
  have H : (sibylref21_Total.l0 k l0 0 0) = some r := h
  clear h
  have H' := Aside0.mk H
  clear H
  go_enter Try.func16, Try.ntmps16
  go_wp2
  go_loopg [3, 4] k (fun kq v3 v4 w' => ∃ (x3_1 : Int) (x4_1 : Int), v3 = .int .u64 x3_1 ∧ v4 = .int .i64 x4_1 ∧ Aside0 (sibylref21_Total.l0 kq l0 x3_1 x4_1 = some r) ∧ Aside0 (kq ≤ k) ∧ Aside0 (Below w.heap.size w w'))
  case atStart => exact ⟨(0), (0), (by first | rfl | (simp; done) | (simp [*]; done)), (by first | rfl | (simp; done) | (simp [*]; done)), H', ⟨Nat.le_refl _⟩, ⟨by repeat (first | (with_reducible first | exact HB.out | apply below_alloc | apply pw_below_drewN | apply below_drew1) | exact HB.out)⟩⟩
  case round =>
    clear H'
    try clear c1
    obtain ⟨x3_1, x4_1, rfl, rfl, HA, HK1, HB⟩ := hrel
    cases gk with
    | zero => exact absurd HA.out (by simp [sibylref21_Total.l0])
    | succ k1 =>
      have H := HA.out
      clear HA
      simp only [sibylref21_Total.l0] at H
      by_cases c2 : x4_1 < (l0.length : Int)
      · rw [if_pos c2] at H
        have c2b0 : decide (x4_1 < (l0.length : Int)) = true := decide_eq_true c2
        clear c2
        by_cases c3 : 0 ≤ x4_1
        · rw [if_pos c3] at H
          have c3b0 : decide (0 ≤ x4_1) = true := decide_eq_true c3
          clear c3
          replace H := Option.bind_eq_some_iff.mp H
          obtain ⟨t425, A40, H⟩ := H
          replace H : (sibylref21_Total.l0 k1 l0 t425 (wrap64 (x4_1 + 1))) = some r := H
          have A4 := Aside0.mk A40
          clear A40
          have H' := Aside0.mk H
          clear H
          have p424 : 0 ≤ (x4_1 : Int) := of_decide_eq_true (by first | (with_reducible assumption) | assumption)
          have q424 : x4_1 < (l0.length : Int) := of_decide_eq_true (by first | (with_reducible assumption) | assumption)
          obtain ⟨ad424, e424, hx424_0⟩ := Kd.at_int HR0.out x4_1 p424 q424
          cases e424
          replace hx424_0 := (HB.out.cell (World.block_lt_of_cell? w _ hx424_0)).trans hx424_0
          replace p424 := eq_true p424
          replace q424 := eq_true q424
          go_wp2_with (first | ((with_reducible refine gate_callee (f := 37) rfl ?_); refine goesL_ (some 16) rfl rfl Try.func37 (by kernel_rfl) rfl #[.int .u64 x3_1, .int .u64 (rd l0 x4_1)] rfl (by (try simp only [List.map_toArray, List.map_cons, List.map_nil]); first | done | rfl | (simp only [List.length_drop, List.length_take]; rfl)) ?_; (with_reducible refine (sibylref21_Add.calls k1 x3_1 (rd l0 x4_1) t425 _ A4.out).mono ?_); rintro e w5 ⟨rfl, hb⟩; refine ⟨_, rfl, ?_⟩; have n0_ := Aside0.mk (below_step (by repeat (first | (with_reducible first | exact HB.out | apply below_alloc | apply pw_below_drewN | apply below_drew1) | exact HB.out)) hb); clear HB; have HB := n0_; clear n0_; (try clear hb); (try clear hb2); (try clear hk); (try clear hi)))
          go_roundg k1
          case measure => have := HK1.out; omega
          case rel => exact ⟨(t425), (wrap64 (x4_1 + 1)), (by first | rfl | (simp; done) | (simp [*]; done)), (by first | rfl | (simp; done) | (simp [*]; done)), H', ⟨by have := HK1.out; omega⟩, ⟨by repeat (first | (with_reducible first | exact HB.out | apply below_alloc | apply pw_below_drewN | apply below_drew1) | exact HB.out)⟩⟩
        · rw [if_neg c3] at H
          exact absurd H (by simp)
      · rw [if_neg c2] at H
        have c2b0 : decide (x4_1 < (l0.length : Int)) = false := decide_eq_false c2
        clear c2
        obtain rfl := Option.some.inj H
        go_wp2
        go_ret
        exact ⟨by first | rfl | (simp [errW_none, errW_some] <;> rfl) | (simp [*, errW_none, errW_some] <;> rfl), by repeat (first | (with_reducible first | exact HB.out | apply below_alloc | apply pw_below_drewN | apply below_drew1) | exact HB.out)⟩
end Go.Proofs.Ytjppanekddljbaa.Pr
/- Limbs, plain: a number's limbs, the least first. -/
namespace Go.Proofs.Ytjppanekddljbaa.Lb
def val : List Nat → Nat
  | [] => 0
  | x :: l => x + 4294967296 * val l
def Lim (l : List Nat) : Prop := ∀ x ∈ l, x < 4294967296
def norm (n : Nat) : List Nat := if h : n = 0 then [] else n % 4294967296 :: norm (n / 4294967296)
  termination_by n
  decreasing_by omega
theorem norm_zero : norm 0 = [] := by rw [norm]; rfl
theorem norm_pos {n : Nat} (h : n ≠ 0) : norm n = n % 4294967296 :: norm (n / 4294967296) := by rw [norm, dif_neg h]
theorem lim_nil : Lim [] := fun _ h => by cases h
theorem lim_cons {x : Nat} {l : List Nat} : Lim (x :: l) ↔ x < 4294967296 ∧ Lim l :=
  ⟨fun h => ⟨h x (List.mem_cons_self ..), fun y hy => h y (List.mem_cons_of_mem _ hy)⟩, fun h y hy => by
    rcases List.mem_cons.1 hy with rfl | hy
    · exact h.1
    · exact h.2 y hy⟩
theorem lim_append {a b : List Nat} (ha : Lim a) (hb : Lim b) : Lim (a ++ b) := fun x hx => (List.mem_append.1 hx).elim (ha x) (hb x)
theorem lim_one {x : Nat} (h : x < 4294967296) : Lim [x] := fun y hy => by obtain rfl := List.mem_singleton.1 hy; exact h
theorem lim_take {l : List Nat} (h : Lim l) (n : Nat) : Lim (l.take n) := fun x hx => h x (List.mem_of_mem_take hx)
theorem lim_get {l : List Nat} (h : Lim l) (i : Nat) : l.getD i 0 < 4294967296 := by
  rcases Nat.lt_or_ge i l.length with h1 | h1
  · rw [List.getD, List.getElem?_eq_getElem h1]; exact h _ (List.getElem_mem h1)
  · rw [List.getD, List.getElem?_eq_none h1]; decide
theorem norm_spec (n : Nat) : val (norm n) = n ∧ Lim (norm n) := by
  induction n using Nat.strongRecOn with
  | ind n ih =>
    by_cases h : n = 0
    · subst h; rw [norm_zero]; exact ⟨rfl, lim_nil⟩
    · rw [norm_pos h]
      obtain ⟨h1, h2⟩ := ih (n / 4294967296) (by omega)
      refine ⟨?_, lim_cons.2 ⟨Nat.mod_lt _ (by decide), h2⟩⟩
      rw [val, h1]
      omega
theorem val_norm (n : Nat) : val (norm n) = n := (norm_spec n).1
theorem lim_norm (n : Nat) : Lim (norm n) := (norm_spec n).2
theorem val_append (a b : List Nat) : val (a ++ b) = val a + 4294967296 ^ a.length * val b := by
  induction a with
  | nil => simp [val]
  | cons x a ih =>
    rw [List.cons_append, val, val, ih, List.length_cons, Nat.pow_succ, Nat.mul_add]
    have : 4294967296 * (4294967296 ^ a.length * val b) = 4294967296 ^ a.length * 4294967296 * val b := by rw [← Nat.mul_assoc, Nat.mul_comm 4294967296]
    omega
theorem val_snoc (a : List Nat) (x : Nat) : val (a ++ [x]) = val a + 4294967296 ^ a.length * x := by rw [val_append]; simp [val]
theorem val_lt {l : List Nat} (h : Lim l) : val l < 4294967296 ^ l.length := by
  induction l with
  | nil => simp [val]
  | cons x l ih =>
    obtain ⟨h1, h2⟩ := lim_cons.1 h
    have := ih h2
    rw [val, List.length_cons, Nat.pow_succ]
    have h3 : 4294967296 * (val l + 1) ≤ 4294967296 * 4294967296 ^ l.length := Nat.mul_le_mul_left _ this
    rw [Nat.mul_comm (4294967296 ^ l.length)]
    omega
theorem val_replicate (n : Nat) : val (List.replicate n 0) = 0 := by
  induction n with
  | zero => rfl
  | succ n ih => rw [List.replicate_succ, val, ih]
theorem lim_replicate (n : Nat) : Lim (List.replicate n 0) := fun x hx => by rw [(List.mem_replicate.1 hx).2]; decide
theorem val_take_succ {l : List Nat} {i : Nat} (h : i < l.length) : val (l.take (i + 1)) = val (l.take i) + 4294967296 ^ i * l.getD i 0 := by
  rw [List.take_succ_eq_append_getElem h, val_snoc, List.length_take, Nat.min_eq_left (by omega), List.getD, List.getElem?_eq_getElem h]
  rfl
/-- limbs whose last is no nought are a number's own -/
theorem norm_val {l : List Nat} (h : Lim l) (hl : l = [] ∨ ∃ a x, l = a ++ [x] ∧ x ≠ 0) : norm (val l) = l := by
  induction l with
  | nil => exact norm_zero
  | cons x l ih =>
    obtain ⟨h1, h2⟩ := lim_cons.1 h
    have hpos : 0 < val (x :: l) := by
      rcases hl with hl | ⟨a, y, hl, hy⟩
      · cases hl
      · rw [hl, val_snoc]
        have : 0 < 4294967296 ^ a.length * y := Nat.mul_pos (Nat.pow_pos (by decide)) (by omega)
        omega
    have hl' : l = [] ∨ ∃ a x, l = a ++ [x] ∧ x ≠ 0 := by
      rcases hl with hl | ⟨a, y, hl, hy⟩
      · cases hl
      · cases a with
        | nil => left; simp at hl; exact hl.2
        | cons z a => right; exact ⟨a, y, by simpa using (List.cons.inj hl).2, hy⟩
    have hih := ih h2 hl'
    rw [norm_pos (by omega), val]
    rw [show (x + 4294967296 * val l) % 4294967296 = x from by omega, show (x + 4294967296 * val l) / 4294967296 = val l from by omega, hih]
theorem norm_last (n : Nat) : norm n = [] ∨ ∃ a x, norm n = a ++ [x] ∧ x ≠ 0 := by
  induction n using Nat.strongRecOn with
  | ind n ih =>
    by_cases h : n = 0
    · subst h; left; exact norm_zero
    · right
      rw [norm_pos h]
      rcases ih (n / 4294967296) (by omega) with h1 | ⟨a, x, h1, h2⟩
      · refine ⟨[], n % 4294967296, by rw [h1]; rfl, ?_⟩
        have : n / 4294967296 = 0 := by have := val_norm (n / 4294967296); rw [h1] at this; exact this.symm
        omega
      · exact ⟨n % 4294967296 :: a, x, by rw [h1]; rfl, h2⟩
theorem norm_length_le {n m : Nat} (h : n < 4294967296 ^ m) : (norm n).length ≤ m := by
  induction m generalizing n with
  | zero => rw [show n = 0 from by simpa using h, norm_zero]; exact Nat.le_refl _
  | succ m ih =>
    by_cases h0 : n = 0
    · subst h0; rw [norm_zero]; exact Nat.zero_le _
    · rw [norm_pos h0, List.length_cons]
      have := ih (n := n / 4294967296) (by
        rw [Nat.pow_succ] at h
        exact Nat.div_lt_of_lt_mul (by rw [Nat.mul_comm]; exact h))
      omega
theorem norm_length_ge {n : Nat} (h : n ≠ 0) : 4294967296 ^ ((norm n).length - 1) ≤ n := by
  rcases norm_last n with h1 | ⟨a, x, h1, h2⟩
  · rw [← val_norm n, h1] at h; exact absurd rfl h
  · have hv := val_norm n
    rw [h1, val_snoc] at hv
    rw [h1, List.length_append, List.length_singleton, Nat.add_sub_cancel]
    have : 4294967296 ^ a.length * 1 ≤ 4294967296 ^ a.length * x := Nat.mul_le_mul_left _ (by omega)
    omega
end Go.Proofs.Ytjppanekddljbaa.Lb
/- What the reference's limb functions answer (their printed forms), over numbers. -/
namespace Go.Proofs.Ytjppanekddljbaa.Lb
open Go.RowKit Go.Proofs.Ytjppanekddljbaa.Pr Go.Proofs.YtjppanekddljbaaW.PrintWords Go.Proofs.YtjppanekddljbaaW.PrintLast Go.Proofs.YtjppanekddljbaaW.PrintMore
def U (l : List Nat) : List Int := l.map (Nat.cast : Nat → Int)
theorem U_length (l : List Nat) : (U l).length = l.length := by simp [U]
theorem U_append (a b : List Nat) : U (a ++ b) = U a ++ U b := by simp [U]
theorem U_one (x : Nat) : U [x] = [(x : Int)] := rfl
theorem U_set (l : List Nat) (i x : Nat) : (U l).set i (x : Int) = U (l.set i x) := by simp [U, List.map_set]
theorem U_replicate (n : Nat) : U (List.replicate n 0) = List.replicate n 0 := by simp [U]
theorem rd_U (l : List Nat) (i : Nat) : rd (U l) (i : Int) = ((l.getD i 0 : Nat) : Int) := by
  simp only [rd, Int.toNat_natCast, U, List.getD]
  rcases Nat.lt_or_ge i l.length with h | h
  · rw [List.getElem?_eq_getElem (by simpa using h), List.getElem?_eq_getElem h]; simp
  · rw [List.getElem?_eq_none (by simpa using h), List.getElem?_eq_none h]; rfl
theorem w64 {x : Int} (h0 : -9223372036854775808 ≤ x) (h1 : x ≤ 9223372036854775807) : wrap64 x = x := by unfold wrap64; omega
theorem wu64 {x : Int} (h0 : 0 ≤ x) (h1 : x < 18446744073709551616) : IntKind.u64.wrap x = x := by simp [IntKind.wrap, IntKind.bits, IntKind.signed]; omega
theorem trim_copy (l : List Nat) (n : Nat) (hn : n ≤ l.length) (hl : l.length ≤ 1000000) (d : Nat) : ∀ (j : Nat) (x : List Int), j ≤ n → n - j = d → x.length = j →
    Ev (fun k => sibylref01_Trim.l1 k (U l) (n : Int) x (j : Int)) (x ++ U ((l.take n).drop j)) := by
  induction d with
  | zero =>
    intro j x hj hd hx
    refine Ev.step (f := fun _ => some x) (fun k => by simp only [sibylref01_Trim.l1]; rw [if_neg (by omega)]) ?_
    rw [List.drop_of_length_le (by simp; omega)]
    simpa [U] using Ev.now x
  | succ d ih =>
    intro j x hj hd hx
    have h1 : j < n := by omega
    refine Ev.step (f := fun k => sibylref01_Trim.l1 k (U l) (n : Int) (x ++ [((l.getD j 0 : Nat) : Int)]) ((j + 1 : Nat) : Int)) (fun k => ?_) ?_
    · simp only [sibylref01_Trim.l1]
      rw [if_pos (by omega), if_pos (by omega), if_pos (by rw [U_length]; omega), if_pos (by omega), rd_U, w64 (by omega) (by omega)]
      rfl
    · have h2 := ih (j + 1) (x ++ [((l.getD j 0 : Nat) : Int)]) (by omega) (by omega) (by simp [hx])
      have h3 : (l.take n).drop j = l.getD j 0 :: (l.take n).drop (j + 1) := by
        rw [List.drop_eq_getElem_cons (by simp; omega)]
        congr 1
        simp [List.getD, show j < l.length by omega]
      rw [h3]
      simpa [U] using h2
theorem trim_loop (l : List Nat) (hL : Lim l) (hl : l.length ≤ 1000000) : ∀ n, n ≤ l.length → Ev (fun k => sibylref01_Trim.l0 k (U l) (n : Int)) (U (norm (val (l.take n)))) := by
  intro n
  induction n with
  | zero =>
    intro _
    refine Ev.step (f := fun k => sibylref01_Trim.j1 k (U l) (0 : Int)) (fun k => by simp only [sibylref01_Trim.l0]; rw [if_neg (by omega)]; rfl) ?_
    refine Ev.step (f := fun k => sibylref01_Trim.l1 k (U l) ((0 : Nat) : Int) [] ((0 : Nat) : Int)) (fun k => by simp only [sibylref01_Trim.j1]; rfl) ?_
    have := trim_copy l 0 (by omega) hl 0 0 [] (by omega) (by omega) rfl
    simpa [val, norm_zero, U] using this
  | succ n ih =>
    intro hn
    have hval := val_take_succ (l := l) (i := n) (by omega)
    by_cases h0 : l.getD n 0 = 0
    · refine Ev.step (f := fun k => sibylref01_Trim.l0 k (U l) (n : Int)) (fun k => ?_) ?_
      · simp only [sibylref01_Trim.l0]
        have hw : wrap64 (((n + 1 : Nat) : Int) - 1) = (n : Int) := by unfold wrap64; omega
        rw [if_pos (by omega), hw, if_pos (by omega), if_pos (by rw [U_length]; omega), rd_U, if_pos (by rw [h0]; rfl)]
      · rw [hval, h0, Nat.mul_zero, Nat.add_zero]
        exact ih (by omega)
    · refine Ev.step (f := fun k => sibylref01_Trim.j1 k (U l) ((n + 1 : Nat) : Int)) (fun k => ?_) ?_
      · simp only [sibylref01_Trim.l0]
        have hw : wrap64 (((n + 1 : Nat) : Int) - 1) = (n : Int) := by unfold wrap64; omega
        rw [if_pos (by omega), hw, if_pos (by omega), if_pos (by rw [U_length]; omega), rd_U, if_neg (by omega)]
      · refine Ev.step (f := fun k => sibylref01_Trim.l1 k (U l) ((n + 1 : Nat) : Int) [] ((0 : Nat) : Int)) (fun k => by simp only [sibylref01_Trim.j1]; rfl) ?_
        have h1 := trim_copy l (n + 1) (by omega) hl (n + 1) 0 [] (by omega) (by omega) rfl
        have h2 : norm (val (l.take (n + 1))) = l.take (n + 1) := norm_val (lim_take hL _) (.inr ⟨l.take n, l.getD n 0, by rw [List.take_succ_eq_append_getElem (by omega), List.getD, List.getElem?_eq_getElem (by omega)]; rfl, h0⟩)
        rw [h2]
        simpa using h1
theorem trim_ev {l : List Nat} (hL : Lim l) (hl : l.length ≤ 1000000) : Ev (fun k => sibylref01_Trim.f k (U l)) (U (norm (val l))) := by
  have h := trim_loop l hL hl l.length (Nat.le_refl _)
  rw [List.take_length] at h
  simpa [sibylref01_Trim.f, U_length] using h
theorem val_lt_of_top {a b : List Nat} (ha : Lim a) (_hb : Lim b) {i : Nat} (h1 : i < a.length) (h2 : i < b.length) (h : a.getD i 0 < b.getD i 0) (ht : a.drop (i + 1) = b.drop (i + 1)) : val a < val b := by
  have ea : a = a.take (i + 1) ++ a.drop (i + 1) := (List.take_append_drop _ _).symm
  have eb : b = b.take (i + 1) ++ b.drop (i + 1) := (List.take_append_drop _ _).symm
  rw [ea, eb, val_append, val_append, ht]
  have l1 : (a.take (i + 1)).length = i + 1 := by simp; omega
  have l2 : (b.take (i + 1)).length = i + 1 := by simp; omega
  rw [l1, l2, val_take_succ h1, val_take_succ h2]
  have h3 := val_lt (lim_take ha i)
  rw [show (a.take i).length = i by simp; omega] at h3
  have h4 : 4294967296 ^ i * (a.getD i 0 + 1) ≤ 4294967296 ^ i * b.getD i 0 := Nat.mul_le_mul_left _ h
  rw [Nat.mul_add, Nat.mul_one] at h4
  omega
theorem cmp_loop {a b : List Nat} (ha : Lim a) (hb : Lim b) (hab : a.length = b.length) (hl : a.length ≤ 1000000) : ∀ n, n ≤ a.length → a.drop n = b.drop n →
    Ev (fun k => sibylref01_Cmp.l0 k (U a) (U b) ((n : Int) - 1)) (if val a < val b then -1 else if val a > val b then 1 else 0) := by
  intro n
  induction n with
  | zero =>
    intro _ he
    rw [List.drop_zero, List.drop_zero] at he
    subst he
    refine Ev.step (f := fun _ => some 0) (fun k => by simp only [sibylref01_Cmp.l0]; rw [if_neg (by omega)]) ?_
    rw [if_neg (by omega), if_neg (by omega)]
    exact Ev.now _
  | succ n ih =>
    intro hn he
    have hi : (((n + 1 : Nat) : Int) - 1) = (n : Int) := by omega
    rw [hi]
    have step : ∀ k, sibylref01_Cmp.l0 (k + 1) (U a) (U b) (n : Int) = if ((a.getD n 0 : Nat) : Int) < ((b.getD n 0 : Nat) : Int) then some (-1) else if ((a.getD n 0 : Nat) : Int) > ((b.getD n 0 : Nat) : Int) then some 1 else sibylref01_Cmp.l0 k (U a) (U b) ((n : Int) - 1) := fun k => by
      simp only [sibylref01_Cmp.l0]
      rw [if_pos (by omega), if_pos (by omega), if_pos (by rw [U_length]; omega), if_pos (by rw [U_length]; omega), rd_U, rd_U, w64 (by omega) (by omega)]
    by_cases h1 : a.getD n 0 < b.getD n 0
    · have := val_lt_of_top ha hb (by omega) (by omega) h1 he
      refine Ev.step (f := fun _ => some (-1)) (fun k => by rw [step, if_pos (by omega)]) ?_
      rw [if_pos this]; exact Ev.now _
    · by_cases h2 : b.getD n 0 < a.getD n 0
      · have := val_lt_of_top hb ha (by omega) (by omega) h2 he.symm
        refine Ev.step (f := fun _ => some 1) (fun k => by rw [step, if_neg (by omega), if_pos (by omega)]) ?_
        rw [if_neg (by omega), if_pos this]; exact Ev.now _
      · refine Ev.step (f := fun k => sibylref01_Cmp.l0 k (U a) (U b) ((n : Int) - 1)) (fun k => by rw [step, if_neg (by omega), if_neg (by omega)]) ?_
        refine ih (by omega) ?_
        rw [List.drop_eq_getElem_cons (show n < a.length by omega), List.drop_eq_getElem_cons (show n < b.length by omega), he]
        congr 1
        simp [List.getD, show n < a.length by omega, show n < b.length by omega] at h1 h2
        omega
theorem norm_len_cmp {x y : Nat} (h : (norm x).length < (norm y).length) : x < y := by
  have h1 := val_lt (lim_norm x)
  rw [val_norm] at h1
  have hy : y ≠ 0 := fun h0 => by rw [h0, norm_zero] at h; simp at h
  have h2 := norm_length_ge hy
  have : 4294967296 ^ (norm x).length ≤ 4294967296 ^ ((norm y).length - 1) := Nat.pow_le_pow_right (by decide) (by omega)
  omega
theorem norm_len {l : List Nat} (hL : Lim l) : (norm (val l)).length ≤ l.length := norm_length_le (val_lt hL)
theorem cmp_ev {a b : List Nat} (ha : Lim a) (hb : Lim b) (hla : a.length ≤ 1000000) (hlb : b.length ≤ 1000000) :
    Ev (fun k => sibylref01_Cmp.f k (U a) (U b)) (if val a < val b then -1 else if val a > val b then 1 else 0) := by
  unfold sibylref01_Cmp.f
  refine Ev.bind (trim_ev ha hla) (Ev.bind (trim_ev hb hlb) ?_)
  have n1 := norm_len ha
  have n2 := norm_len hb
  rw [U_length, U_length]
  by_cases h1 : (norm (val a)).length < (norm (val b)).length
  · have := norm_len_cmp h1
    refine Ev.congr (f := fun _ => some (-1)) (fun k => if_pos (by omega)) ?_
    rw [if_pos this]; exact Ev.now _
  · by_cases h2 : (norm (val b)).length < (norm (val a)).length
    · have := norm_len_cmp h2
      refine Ev.congr (f := fun _ => some 1) (fun k => by rw [if_neg (by omega), if_pos (by omega)]) ?_
      rw [if_neg (by omega), if_pos this]; exact Ev.now _
    · refine Ev.congr (f := fun k => sibylref01_Cmp.l0 k (U (norm (val a))) (U (norm (val b))) (((norm (val a)).length : Int) - 1)) (fun k => by rw [if_neg (by omega), if_neg (by omega), w64 (by omega) (by omega)]) ?_
      have := cmp_loop (lim_norm (val a)) (lim_norm (val b)) (by omega) (by omega) (norm (val a)).length (Nat.le_refl _) (by rw [List.drop_length, List.drop_of_length_le (by omega)])
      rwa [val_norm, val_norm] at this
end Go.Proofs.Ytjppanekddljbaa.Lb
/- What the reference's limb functions answer: sums, differences, shifts. -/
namespace Go.Proofs.Ytjppanekddljbaa.Lb
open Go.RowKit Go.Proofs.Ytjppanekddljbaa.Pr Go.Proofs.YtjppanekddljbaaW.PrintWords Go.Proofs.YtjppanekddljbaaW.PrintLast Go.Proofs.YtjppanekddljbaaW.PrintMore
theorem Ev.step2 {α : Type} {g f : Nat → Option α} {r : α} (h : ∀ k, g (k + 1 + 1) = f k) (hf : Ev f r) : Ev g r := by
  obtain ⟨K, hf⟩ := hf
  refine ⟨K + 2, fun n hn => ?_⟩
  obtain ⟨m, rfl⟩ : ∃ m, n = m + 1 + 1 := ⟨n - 2, by omega⟩
  rw [h]
  exact hf m (by omega)
theorem wuN {n : Nat} (h : n < 18446744073709551616) : IntKind.u64.wrap (n : Int) = (n : Int) := wu64 (by omega) (by omega)
theorem tmodB (s : Nat) : Int.tmod (s : Int) 4294967296 % 4294967296 = ((s % 4294967296 : Nat) : Int) := by
  rw [show (4294967296 : Int) = ((4294967296 : Nat) : Int) from rfl, ← Int.ofNat_tmod]
  omega
theorem tdivB (s : Nat) : Int.tdiv (s : Int) 4294967296 = ((s / 4294967296 : Nat) : Int) := rfl
theorem modB {s : Nat} (h : s < 4294967296) : (s : Int) % 4294967296 = (s : Int) := by omega
theorem val_drop (l : List Nat) (i : Nat) : val (l.drop i) = l.getD i 0 + 4294967296 * val (l.drop (i + 1)) := by
  rcases Nat.lt_or_ge i l.length with h | h
  · rw [List.drop_eq_getElem_cons h, val, List.getD, List.getElem?_eq_getElem h]; rfl
  · rw [List.drop_of_length_le h, List.drop_of_length_le (by omega), List.getD, List.getElem?_eq_none h]; rfl
theorem plus_round {a b : List Nat} (ha : Lim a) (hb : Lim b) (hla : a.length ≤ 500000) (hlb : b.length ≤ 500000) {i c : Nat} (hc : c ≤ 1) {x : List Int} (hx : x.length = i) (hi : i < a.length ∨ i < b.length) (k : Nat) :
    sibylref01_Plus.l0 (k + 1 + 1) (U a) (U b) x (c : Int) (i : Int) = sibylref01_Plus.l0 k (U a) (U b) (x ++ [(((c + a.getD i 0 + b.getD i 0) % 4294967296 : Nat) : Int)]) (((c + a.getD i 0 + b.getD i 0) / 4294967296 : Nat) : Int) ((i + 1 : Nat) : Int) := by
  have h1 := lim_get ha i
  have h2 := lim_get hb i
  have hw : wrap64 ((i : Int) + 1) = ((i + 1 : Nat) : Int) := by unfold wrap64; omega
  simp only [sibylref01_Plus.l0, sibylref01_Plus.j1, U_length]
  rcases Nat.lt_or_ge i a.length with h3 | h3
  · rw [if_pos (by omega), if_pos trivial, if_pos (by omega), if_pos (by omega), rd_U, wuN (by omega), ← Int.natCast_add, wuN (by omega)]
    rcases Nat.lt_or_ge i b.length with h4 | h4
    · rw [if_pos (by omega), if_pos (by omega), rd_U, wuN (by omega), ← Int.natCast_add, wuN (by omega), tmodB, tdivB, wuN (by omega), hw]
    · have h5 : b.getD i 0 = 0 := by rw [List.getD, List.getElem?_eq_none h4]; rfl
      rw [if_neg (by omega), if_pos (by omega), tmodB, tdivB, wuN (by omega), hw, h5]
      simp only [Nat.add_zero]
  · have h4 : i < b.length := by omega
    have h5 : a.getD i 0 = 0 := by rw [List.getD, List.getElem?_eq_none h3]; rfl
    rw [if_neg (by omega), if_pos (by simp; omega), if_neg (by omega), if_pos (by omega), if_pos (by omega), if_pos (by omega), rd_U, wuN (by omega), ← Int.natCast_add, wuN (by omega), tmodB, tdivB, wuN (by omega), hw, h5]
    simp only [Nat.add_zero]
theorem plus_loop {a b : List Nat} (ha : Lim a) (hb : Lim b) (hla : a.length ≤ 500000) (hlb : b.length ≤ 500000) (d : Nat) : ∀ (i c : Nat) (x : List Nat), max a.length b.length - i = d → i ≤ max a.length b.length → c ≤ 1 → x.length = i → Lim x →
    Ev (fun k => sibylref01_Plus.l0 k (U a) (U b) (U x) (c : Int) (i : Int)) (U (norm (val x + 4294967296 ^ i * (c + val (a.drop i) + val (b.drop i))))) := by
  induction d with
  | zero =>
    intro i c x hd hi hc hx hL
    have h1 : a.length ≤ i := by omega
    have h2 : b.length ≤ i := by omega
    refine Ev.step (f := fun k => sibylref01_Plus.j1 k (U a) (U b) (U x) (c : Int) (i : Int) false) (fun k => by
      simp only [sibylref01_Plus.l0, U_length]; rw [if_neg (by omega), show decide ((i : Int) < (b.length : Int)) = false from decide_eq_false (by omega)]) ?_
    refine Ev.step (f := fun k => (sibylref01_Trim.f k (U (x ++ [c]))).bind fun t => some t) (fun k => by
      simp only [sibylref01_Plus.j1, U_length]; rw [if_neg (by decide), if_pos (by omega), modB (by omega), U_append, U_one]) ?_
    rw [List.drop_of_length_le h1, List.drop_of_length_le h2]
    have h3 := trim_ev (l := x ++ [c]) (lim_append hL (lim_one (by omega))) (by simp; omega)
    rw [val_snoc, hx] at h3
    simpa [val] using Ev.bind h3 (Ev.now _)
  | succ d ih =>
    intro i c x hd hi hc hx hL
    have h1 := lim_get ha i
    have h2 := lim_get hb i
    obtain ⟨s, hs⟩ : ∃ s, c + a.getD i 0 + b.getD i 0 = s := ⟨_, rfl⟩
    have hr := fun k => plus_round ha hb hla hlb hc (x := U x) (by rw [U_length]; exact hx) (show i < a.length ∨ i < b.length by omega) k
    rw [hs] at hr
    refine Ev.step2 hr ?_
    have h3 := ih (i + 1) (s / 4294967296) (x ++ [s % 4294967296]) (by omega) (by omega) (by omega) (by simp [hx]) (lim_append hL (lim_one (Nat.mod_lt _ (by decide))))
    have h4 : val (x ++ [s % 4294967296]) + 4294967296 ^ (i + 1) * (s / 4294967296 + val (a.drop (i + 1)) + val (b.drop (i + 1))) = val x + 4294967296 ^ i * (c + val (a.drop i) + val (b.drop i)) := by
      rw [val_snoc, hx, val_drop a i, val_drop b i, Nat.pow_succ, Nat.mul_assoc, Nat.add_assoc, ← Nat.mul_add]
      congr 2
      omega
    rw [h4, U_append, U_one] at h3
    exact h3
theorem plus_ev {a b : List Nat} (ha : Lim a) (hb : Lim b) (hla : a.length ≤ 500000) (hlb : b.length ≤ 500000) : Ev (fun k => sibylref01_Plus.f k (U a) (U b)) (U (norm (val a + val b))) := by
  have := plus_loop ha hb hla hlb (max a.length b.length) 0 0 [] (by omega) (by omega) (by omega) rfl lim_nil
  simpa [sibylref01_Plus.f, U, val] using this
def digM (p w q : Nat) : Nat := if p < w + q then p + 4294967296 - w - q else p - w - q
def borM (p w q : Nat) : Nat := if p < w + q then 1 else 0
theorem set_app (x y : List Nat) (d : Nat) {i : Nat} (hx : x.length = i) (hy : y ≠ []) : (x ++ y).set i d = (x ++ [d]) ++ y.tail := by
  cases y with
  | nil => exact absurd rfl hy
  | cons z y => rw [List.set_append_right _ _ (by omega), hx, Nat.sub_self, List.set_cons_zero, List.append_assoc]; rfl
theorem minus_round {x b y : List Nat} (hx : Lim x) (hb : Lim b) {i w : Nat} (hw : w ≤ 1) (hi : i < y.length) (hl : y.length ≤ 500000) (hy : y.getD i 0 = x.getD i 0) (k : Nat) :
    sibylref01_Minus.l0 (k + 1) (U y) (U b) (w : Int) (i : Int) = sibylref01_Minus.l0 k (U (y.set i (digM (x.getD i 0) w (b.getD i 0)))) (U b) (borM (x.getD i 0) w (b.getD i 0) : Int) ((i + 1 : Nat) : Int) := by
  have h1 := lim_get hx i
  have h2 := lim_get hb i
  have hww : wrap64 ((i : Int) + 1) = ((i + 1 : Nat) : Int) := by unfold wrap64; omega
  simp only [sibylref01_Minus.l0, U_length]
  rw [if_pos (by omega), if_pos (by omega), rd_U, hy, hww, Int.toNat_natCast, ← U_set]
  obtain ⟨p, hp⟩ : ∃ p, x.getD i 0 = p := ⟨_, rfl⟩
  rw [hp] at h1 ⊢
  rw [w64 (x := (p : Int)) (by omega) (by omega), w64 (x := (p : Int) - w) (by omega) (by omega)]
  rcases Nat.lt_or_ge i b.length with h3 | h3
  · rw [if_pos (by omega), rd_U]
    obtain ⟨q, hq⟩ : ∃ q, b.getD i 0 = q := ⟨_, rfl⟩
    rw [hq] at h2 ⊢
    rw [w64 (x := (q : Int)) (by omega) (by omega), w64 (x := (p : Int) - w - q) (by omega) (by omega)]
    by_cases h4 : p < w + q
    · rw [if_pos (by omega), w64 (by omega) (by omega)]
      simp only [digM, borM, if_pos h4]
      congr 2
      omega
    · rw [if_neg (by omega)]
      simp only [digM, borM, if_neg h4]
      congr 2
      omega
  · rw [if_neg (by omega), show b.getD i 0 = 0 by rw [List.getD, List.getElem?_eq_none h3]; rfl]
    by_cases h4 : p < w + 0
    · rw [if_pos (by omega), w64 (by omega) (by omega)]
      simp only [digM, borM, if_pos h4]
      congr 2
      omega
    · rw [if_neg (by omega)]
      simp only [digM, borM, if_neg h4]
      congr 2
      omega
theorem minus_loop {a b : List Nat} (ha : Lim a) (hb : Lim b) (hla : a.length ≤ 500000) (d : Nat) : ∀ (i w : Nat) (x : List Nat), a.length - i = d → i ≤ a.length → w ≤ 1 → x.length = i → Lim x → w + val (b.drop i) ≤ val (a.drop i) →
    Ev (fun k => sibylref01_Minus.l0 k (U (x ++ a.drop i)) (U b) (w : Int) (i : Int)) (U (norm (val x + 4294967296 ^ i * (val (a.drop i) - w - val (b.drop i))))) := by
  induction d with
  | zero =>
    intro i w x hd hi hw hx hL hle
    have h1 : a.drop i = [] := List.drop_of_length_le (by omega)
    rw [h1, List.append_nil]
    refine Ev.step (f := fun k => (sibylref01_Trim.f k (U x)).bind fun t => some t) (fun k => by
      simp only [sibylref01_Minus.l0, U_length]; rw [if_neg (by omega)]) ?_
    have h3 := trim_ev (l := x) hL (by omega)
    simpa [val] using Ev.bind h3 (Ev.now _)
  | succ d ih =>
    intro i w x hd hi hw hx hL hle
    have hlt : i < a.length := by omega
    have hne : a.drop i ≠ [] := fun h => by have := congrArg List.length h; simp at this; omega
    have hgd : (x ++ a.drop i).getD i 0 = a.getD i 0 := by
      rw [List.getD, List.getElem?_append_right (by omega), hx, Nat.sub_self, List.getElem?_drop, Nat.add_zero]; rfl
    have hr := fun k => minus_round (y := x ++ a.drop i) ha hb hw (i := i) (by simp; omega) (by simp; omega) hgd k
    refine Ev.step hr ?_
    have h1 := lim_get ha i
    have h2 := lim_get hb i
    have e1 := val_drop a i
    have e2 := val_drop b i
    obtain ⟨p, hp⟩ : ∃ p, a.getD i 0 = p := ⟨_, rfl⟩
    obtain ⟨q, hq⟩ : ∃ q, b.getD i 0 = q := ⟨_, rfl⟩
    rw [hp] at h1 e1 ⊢
    rw [hq] at h2 e2 ⊢
    rw [set_app x (a.drop i) _ hx hne, List.tail_drop]
    have hdig : digM p w q < 4294967296 := by unfold digM; split <;> omega
    have hkey : p + 4294967296 * borM p w q = digM p w q + w + q := by unfold digM borM; split <;> omega
    have hb1 : borM p w q ≤ 1 := by unfold borM; split <;> omega
    have h3 := ih (i + 1) (borM p w q) (x ++ [digM p w q]) (by omega) (by omega) hb1 (by simp [hx]) (lim_append hL (lim_one hdig)) (by omega)
    have h4 : val (x ++ [digM p w q]) + 4294967296 ^ (i + 1) * (val (a.drop (i + 1)) - borM p w q - val (b.drop (i + 1))) = val x + 4294967296 ^ i * (val (a.drop i) - w - val (b.drop i)) := by
      rw [val_snoc, hx, Nat.pow_succ, Nat.mul_assoc, Nat.add_assoc, ← Nat.mul_add]
      congr 2
      omega
    rw [h4] at h3
    exact h3
theorem minus_ev {a b : List Nat} (ha : Lim a) (hb : Lim b) (hla : a.length ≤ 500000) (hlb : b.length ≤ 500000) (hle : val b ≤ val a) : Ev (fun k => sibylref01_Minus.f k (U a) (U b)) (U (norm (val a - val b))) := by
  unfold sibylref01_Minus.f
  refine Ev.bind (trim_ev ha (by omega)) (Ev.bind (trim_ev hb (by omega)) ?_)
  have n1 := norm_len ha
  have n2 := norm_len hb
  have := minus_loop (lim_norm (val a)) (lim_norm (val b)) (by omega) (norm (val a)).length 0 0 [] (by omega) (by omega) (by omega) rfl lim_nil (by simpa [val_norm] using hle)
  simpa [val_norm, val] using this
theorem pow_lt32 {s : Nat} (h : s < 32) : 2 ^ s ≤ 2147483648 := by
  have : 2 ^ s ≤ 2 ^ 31 := Nat.pow_le_pow_right (by decide) (by omega)
  simpa using this
theorem shl_tmod (n : Nat) : Int.tmod (n : Int) 32 = ((n % 32 : Nat) : Int) := (Int.ofNat_tmod n 32).symm
theorem shl_tdiv (n : Nat) : Int.tdiv (n : Int) 32 = ((n / 32 : Nat) : Int) := rfl
theorem shl_round {a : List Nat} (ha : Lim a) (hla : a.length ≤ 400000) {n i c : Nat} (hc : c < 4294967296) {x : List Int} (hx : x.length ≤ 400000 + i) (hi : i < a.length) (k : Nat) :
    sibylref01_Shl.l0 (k + 1) (U a) (n : Int) x (c : Int) (i : Int) = sibylref01_Shl.l0 k (U a) (n : Int) (x ++ [(((a.getD i 0 * 2 ^ (n % 32) + c) % 4294967296 : Nat) : Int)]) (((a.getD i 0 * 2 ^ (n % 32) + c) / 4294967296 : Nat) : Int) ((i + 1 : Nat) : Int) := by
  have h1 := lim_get ha i
  have hw : wrap64 ((i : Int) + 1) = ((i + 1 : Nat) : Int) := by unfold wrap64; omega
  have hm : n % 32 < 32 := Nat.mod_lt _ (by decide)
  have hp := pow_lt32 hm
  have hmul : a.getD i 0 * 2 ^ (n % 32) ≤ 4294967295 * 2147483648 := Nat.mul_le_mul (by omega) hp
  simp only [sibylref01_Shl.l0, U_length]
  have hs : shl .u64 ((a.getD i 0 : Nat) : Int) ((n % 32 : Nat) : Int) = ((a.getD i 0 * 2 ^ (n % 32) : Nat) : Int) := by
    have e : ((a.getD i 0 : Nat) : Int) * 2 ^ (n % 32) = ((a.getD i 0 * 2 ^ (n % 32) : Nat) : Int) := by
      rw [Int.natCast_mul, Int.natCast_pow]; rfl
    unfold shl
    rw [Int.toNat_natCast, Nat.min_eq_left (by simp [IntKind.bits]; omega), e, wuN (by omega)]
  rw [if_pos (by omega), if_pos (by omega), shl_tmod, wuN (by omega), if_pos (by omega), if_pos (by omega), rd_U, wuN (by omega), hs, ← Int.natCast_add, wuN (by omega), tmodB, tdivB, wuN (by omega), hw]
theorem shl_loop {a : List Nat} (ha : Lim a) (hla : a.length ≤ 400000) (n : Nat) (d : Nat) : ∀ (i c : Nat) (x : List Nat), a.length - i = d → i ≤ a.length → c < 4294967296 → x.length ≤ 400000 + i → Lim x →
    Ev (fun k => sibylref01_Shl.l0 k (U a) (n : Int) (U x) (c : Int) (i : Int)) (U (norm (val x + 4294967296 ^ x.length * (c + val (a.drop i) * 2 ^ (n % 32))))) := by
  induction d with
  | zero =>
    intro i c x hd hi hc hx hL
    refine Ev.step (f := fun k => (sibylref01_Trim.f k (U (x ++ [c]))).bind fun t => some t) (fun k => by
      simp only [sibylref01_Shl.l0, U_length]; rw [if_neg (by omega), if_pos (by omega), modB (by omega), U_append, U_one]) ?_
    rw [List.drop_of_length_le (by omega)]
    have h3 := trim_ev (l := x ++ [c]) (lim_append hL (lim_one hc)) (by simp; omega)
    rw [val_snoc] at h3
    simpa [val] using Ev.bind h3 (Ev.now _)
  | succ d ih =>
    intro i c x hd hi hc hx hL
    have hr := fun k => shl_round ha hla (n := n) hc (x := U x) (by rw [U_length]; exact hx) (show i < a.length by omega) k
    refine Ev.step hr ?_
    have h1 := lim_get ha i
    have hp := pow_lt32 (Nat.mod_lt n (show 0 < 32 by decide))
    have hmul : a.getD i 0 * 2 ^ (n % 32) ≤ 4294967295 * 2147483648 := Nat.mul_le_mul (by omega) hp
    obtain ⟨s, hs⟩ : ∃ s, a.getD i 0 * 2 ^ (n % 32) + c = s := ⟨_, rfl⟩
    rw [hs]
    have h3 := ih (i + 1) (s / 4294967296) (x ++ [s % 4294967296]) (by omega) (by omega) (by omega) (by simp; omega) (lim_append hL (lim_one (Nat.mod_lt _ (by decide))))
    have h4 : val (x ++ [s % 4294967296]) + 4294967296 ^ (x ++ [s % 4294967296]).length * (s / 4294967296 + val (a.drop (i + 1)) * 2 ^ (n % 32)) = val x + 4294967296 ^ x.length * (c + val (a.drop i) * 2 ^ (n % 32)) := by
      rw [val_snoc, List.length_append, List.length_singleton, val_drop a i, Nat.pow_succ, Nat.mul_assoc, Nat.add_assoc, ← Nat.mul_add, Nat.add_mul, Nat.mul_assoc 4294967296]
      congr 2
      omega
    rw [h4, U_append, U_one] at h3
    exact h3
theorem pow32 (n : Nat) : (4294967296 : Nat) ^ n = 2 ^ (32 * n) := by rw [Nat.pow_mul]
theorem shl_ev {a : List Nat} (ha : Lim a) (hla : a.length ≤ 400000) {n : Nat} (hn : n ≤ 1000000) : Ev (fun k => sibylref01_Shl.f k (U a) (n : Int)) (U (norm (val a * 2 ^ n))) := by
  have h := shl_loop ha hla n a.length 0 0 (List.replicate (n / 32) 0) (by omega) (by omega) (by omega) (by simp; omega) (lim_replicate _)
  refine Ev.congr (f := fun k => sibylref01_Shl.l0 k (U a) (n : Int) (U (List.replicate (n / 32) 0)) ((0 : Nat) : Int) ((0 : Nat) : Int)) (fun k => ?_) ?_
  · unfold sibylref01_Shl.f
    rw [shl_tdiv, w64 (by omega) (by omega), if_pos (by omega), if_pos (by rw [Int.toNat_natCast]; omega), Int.toNat_natCast, U_replicate]
    rfl
  · have e : val (List.replicate (n / 32) 0) + 4294967296 ^ (List.replicate (n / 32) 0).length * (0 + val (a.drop 0) * 2 ^ (n % 32)) = val a * 2 ^ n := by
      rw [val_replicate, List.length_replicate, List.drop_zero, Nat.zero_add, Nat.zero_add, pow32, Nat.mul_left_comm, ← Nat.pow_add]
      congr 2
      omega
    rw [e] at h
    exact h
theorem shr_digit {p q v s : Nat} (hs : s < 32) (hp : p < 4294967296) : (p + 4294967296 * (q + 4294967296 * v)) / 2 ^ s = (p + q * 4294967296) / 2 ^ s % 4294967296 + 4294967296 * ((q + 4294967296 * v) / 2 ^ s) := by
  obtain ⟨m, hm⟩ : ∃ m, 4294967296 = 2 ^ s * m := ⟨2 ^ (32 - s), by rw [← Nat.pow_add, show s + (32 - s) = 32 by omega]⟩
  have hpos : 0 < 2 ^ s := Nat.two_pow_pos s
  have e1 : (p + 4294967296 * (q + 4294967296 * v)) / 2 ^ s / 4294967296 = (q + 4294967296 * v) / 2 ^ s := by
    rw [Nat.div_div_eq_div_mul, Nat.mul_comm (2 ^ s), ← Nat.div_div_eq_div_mul]
    congr 1
    omega
  have e2 : (p + 4294967296 * (q + 4294967296 * v)) / 2 ^ s = (p + q * 4294967296) / 2 ^ s + 4294967296 * (m * v) := by
    have : p + 4294967296 * (q + 4294967296 * v) = (p + q * 4294967296) + 2 ^ s * (4294967296 * (m * v)) := by
      rw [Nat.mul_left_comm (2 ^ s), ← Nat.mul_assoc (2 ^ s), ← hm]
      omega
    rw [this, Nat.add_mul_div_left _ _ hpos]
  have e3 : (p + 4294967296 * (q + 4294967296 * v)) / 2 ^ s % 4294967296 = (p + q * 4294967296) / 2 ^ s % 4294967296 := by rw [e2, Nat.add_mul_mod_self_left]
  have := Nat.div_add_mod ((p + 4294967296 * (q + 4294967296 * v)) / 2 ^ s) 4294967296
  rw [e1, e3] at this
  omega
theorem shr_round {a : List Nat} (ha : Lim a) (hla : a.length ≤ 400000) {n i : Nat} {x : List Int} (hx : x.length ≤ i) (hi : i < a.length) (k : Nat) :
    sibylref01_Shr.l0 (k + 1) (U a) (n : Int) x (i : Int) = sibylref01_Shr.l0 k (U a) (n : Int) (x ++ [((((a.getD i 0 + a.getD (i + 1) 0 * 4294967296) / 2 ^ (n % 32)) % 4294967296 : Nat) : Int)]) ((i + 1 : Nat) : Int) := by
  have h1 := lim_get ha i
  have h2 := lim_get ha (i + 1)
  have hw : wrap64 ((i : Int) + 1) = ((i + 1 : Nat) : Int) := by unfold wrap64; omega
  have hm : n % 32 < 32 := Nat.mod_lt _ (by decide)
  have hs : ∀ y : Nat, shr .u64 ((y : Nat) : Int) ((n % 32 : Nat) : Int) = ((y / 2 ^ (n % 32) : Nat) : Int) := fun y => by
    have e : ((2 : Int) ^ (n % 32)) = ((2 ^ (n % 32) : Nat) : Int) := by rw [Int.natCast_pow]; rfl
    unfold shr
    rw [Int.toNat_natCast, Nat.min_eq_left (by simp [IntKind.bits]; omega), e]
    exact (Int.natCast_ediv y _).symm
  simp only [sibylref01_Shr.l0, U_length]
  rw [if_pos (by omega), if_pos (by omega), hw]
  rcases Nat.lt_or_ge (i + 1) a.length with h3 | h3
  · rw [if_pos (by omega), if_pos (by omega), shl_tmod, wuN (by omega), if_pos (by omega), if_pos (by omega), rd_U, wuN (by omega), rd_U, wuN (n := a.getD (i + 1) 0) (by omega),
      show ((a.getD (i + 1) 0 : Nat) : Int) * 4294967296 = ((a.getD (i + 1) 0 * 4294967296 : Nat) : Int) from by omega, wuN (by omega), ← Int.natCast_add, wuN (by omega), hs, tmodB]
  · have h5 : a.getD (i + 1) 0 = 0 := by rw [List.getD, List.getElem?_eq_none h3]; rfl
    rw [if_neg (by omega), shl_tmod, wuN (by omega), if_pos (by omega), if_pos (by omega), rd_U, wuN (by omega), hs, tmodB, h5]
    simp only [Nat.zero_mul, Nat.add_zero]
theorem shr_loop {a : List Nat} (ha : Lim a) (hla : a.length ≤ 400000) (n : Nat) (d : Nat) : ∀ (i : Nat) (x : List Nat), a.length - i = d → x.length ≤ i → x.length ≤ a.length → Lim x →
    Ev (fun k => sibylref01_Shr.l0 k (U a) (n : Int) (U x) (i : Int)) (U (norm (val x + 4294967296 ^ x.length * (val (a.drop i) / 2 ^ (n % 32))))) := by
  induction d with
  | zero =>
    intro i x hd hx hx2 hL
    refine Ev.step (f := fun k => (sibylref01_Trim.f k (U x)).bind fun t => some t) (fun k => by
      simp only [sibylref01_Shr.l0, U_length]; rw [if_neg (by omega)]) ?_
    rw [List.drop_of_length_le (by omega)]
    have h3 := trim_ev (l := x) hL (by omega)
    simpa [val] using Ev.bind h3 (Ev.now _)
  | succ d ih =>
    intro i x hd hx hx2 hL
    have hr := fun k => shr_round ha hla (n := n) (x := U x) (by rw [U_length]; exact hx) (show i < a.length by omega) k
    refine Ev.step hr ?_
    have h1 := lim_get ha i
    obtain ⟨s, hs⟩ : ∃ s, (a.getD i 0 + a.getD (i + 1) 0 * 4294967296) / 2 ^ (n % 32) % 4294967296 = s := ⟨_, rfl⟩
    have hslt : s < 4294967296 := by rw [← hs]; exact Nat.mod_lt _ (by decide)
    rw [hs]
    have h3 := ih (i + 1) (x ++ [s]) (by omega) (by simp; omega) (by simp; omega) (lim_append hL (lim_one hslt))
    have h4 : val (x ++ [s]) + 4294967296 ^ (x ++ [s]).length * (val (a.drop (i + 1)) / 2 ^ (n % 32)) = val x + 4294967296 ^ x.length * (val (a.drop i) / 2 ^ (n % 32)) := by
      rw [val_snoc, List.length_append, List.length_singleton, Nat.pow_succ, Nat.mul_assoc, Nat.add_assoc, ← Nat.mul_add]
      congr 2
      rw [val_drop a i, val_drop a (i + 1), shr_digit (Nat.mod_lt _ (by decide)) h1, hs]
    rw [h4, U_append, U_one] at h3
    exact h3
theorem val_drop_div {l : List Nat} (hL : Lim l) (i : Nat) : val (l.drop i) = val l / 4294967296 ^ i := by
  induction i with
  | zero => simp
  | succ i ih =>
    have h := lim_get hL i
    rw [Nat.pow_succ, ← Nat.div_div_eq_div_mul, ← ih, val_drop l i]
    omega
theorem shr_ev {a : List Nat} (ha : Lim a) (hla : a.length ≤ 400000) {n : Nat} (hn : n ≤ 1000000) : Ev (fun k => sibylref01_Shr.f k (U a) (n : Int)) (U (norm (val a / 2 ^ n))) := by
  have h := shr_loop ha hla n (a.length - n / 32) (n / 32) [] rfl (by simp) (by simp) lim_nil
  refine Ev.congr (f := fun k => sibylref01_Shr.l0 k (U a) (n : Int) (U []) ((n / 32 : Nat) : Int)) (fun k => ?_) ?_
  · unfold sibylref01_Shr.f
    rw [shl_tdiv, w64 (by omega) (by omega)]
    rfl
  · have e : val ([] : List Nat) + 4294967296 ^ ([] : List Nat).length * (val (a.drop (n / 32)) / 2 ^ (n % 32)) = val a / 2 ^ n := by
      rw [val_drop_div ha]
      simp only [val, List.length_nil, Nat.pow_zero, Nat.one_mul, Nat.zero_add]
      rw [pow32, Nat.div_div_eq_div_mul, ← Nat.pow_add]
      congr 2
      omega
    rw [e] at h
    exact h
end Go.Proofs.Ytjppanekddljbaa.Lb
/- Floats by their bits: what Ieee's double reads, plain. -/
namespace Go.Proofs.Ytjppanekddljbaa.Fl
open Ieee
def INF : Nat := 9218868437227405312
def ONE : Nat := 4607182418800017408
theorem dsw : double.signWeight = 9223372036854775808 := by decide
theorem dbin : double.binade = 4503599627370496 := by decide
theorem dinf : double.infRung = 9218868437227405312 := by decide
theorem dleast : double.leastPlace = -1074 := by decide
theorem dfrac : double.fractionBits = 52 := rfl
theorem read_eq (w : Nat) : double.read w = (if w % 9223372036854775808 < 4503599627370496 then .number (w / 9223372036854775808 % 2 == 1) (w % 9223372036854775808) (-1074)
    else if w % 9223372036854775808 < 9218868437227405312 then .number (w / 9223372036854775808 % 2 == 1) (4503599627370496 + w % 9223372036854775808 % 4503599627370496) (-1074 + (w % 9223372036854775808 / 4503599627370496 - 1 : Nat))
    else if w % 9223372036854775808 = 9218868437227405312 then .infinity (w / 9223372036854775808 % 2 == 1) else .nan (w / 9223372036854775808 % 2 == 1) (w % 9223372036854775808 - 9218868437227405312)) := by
  simp only [Format.read, dsw, dbin, dinf, dleast]
/-- mag and place of a rung, whatever it is -/
def magOf (r : Nat) : Nat := if r < 4503599627370496 then r else 4503599627370496 + r % 4503599627370496
def expOf (r : Nat) : Nat := r / 4503599627370496 - 1
theorem read_fin (w : Nat) (h : w % 9223372036854775808 < 9218868437227405312) :
    double.read w = .number (w / 9223372036854775808 % 2 == 1) (magOf (w % 9223372036854775808)) (-1074 + (expOf (w % 9223372036854775808) : Nat)) := by
  rw [read_eq]
  by_cases h1 : w % 9223372036854775808 < 4503599627370496
  · rw [if_pos h1]
    simp only [magOf, expOf, if_pos h1]
    rw [show w % 9223372036854775808 / 4503599627370496 = 0 from Nat.div_eq_of_lt h1]
    simp
  · rw [if_neg h1, if_pos h]
    simp only [magOf, expOf, if_neg h1]
theorem read_inf (w : Nat) (h : w % 9223372036854775808 = 9218868437227405312) : double.read w = .infinity (w / 9223372036854775808 % 2 == 1) := by
  rw [read_eq, if_neg (by omega), if_neg (by omega), if_pos h]
theorem read_nan (w : Nat) (h : 9218868437227405312 < w % 9223372036854775808) : double.read w = .nan (w / 9223372036854775808 % 2 == 1) (w % 9223372036854775808 - 9218868437227405312) := by
  rw [read_eq, if_neg (by omega), if_neg (by omega), if_neg (by omega)]
def isNaN (b : Nat) : Bool := decide (9218868437227405312 < b % 9223372036854775808)
theorem read_not_nan {w : Nat} (h : isNaN w = false) : (∃ s m e, double.read w = .number s m e) ∨ ∃ s, double.read w = .infinity s := by
  unfold isNaN at h
  simp only [decide_eq_false_iff_not] at h
  by_cases h1 : w % 9223372036854775808 < 9218868437227405312
  · exact .inl ⟨_, _, _, read_fin w h1⟩
  · exact .inr ⟨_, read_inf w (by omega)⟩
theorem order_nan_left {x y : Nat} (h : isNaN x = true) : double.order x y = none := by
  unfold isNaN at h
  simp only [decide_eq_true_eq] at h
  unfold Format.order
  rw [read_nan x h]
  rfl
theorem order_self {x : Nat} (h : isNaN x = false) : double.order x x = some .eq := by
  unfold Format.order
  rcases read_not_nan h with ⟨s, m, e, h⟩ | ⟨s, h⟩ <;> rw [h] <;> simp [Datum.order]
theorem add_nan_left {x y : Nat} (h : isNaN x = true) : double.add x y = none := by
  unfold isNaN at h
  simp only [decide_eq_true_eq] at h
  unfold Format.add
  rw [read_nan x h]
  rfl
/-- what a NaN that the machine chooses reads as -/
theorem nan_cut (t : Nat) : isNaN ((t % 2) * 2 ^ 63 + 0x7ff0000000000000 + 1 + (t / 2) % (2 ^ 52 - 1)) = true := by
  unfold isNaN
  simp only [decide_eq_true_eq]
  have h2 : t / 2 % (2 ^ 52 - 1) < 2 ^ 52 - 1 := Nat.mod_lt _ (by decide)
  generalize t / 2 % (2 ^ 52 - 1) = r at h2
  rcases Nat.mod_two_eq_zero_or_one t with h | h <;> rw [h] <;> omega
/-- what is written is never a NaN, if it is a number or an infinity -/
theorem nearest_rung (neg : Bool) (m : Nat) (e : Int) : ∃ r, r ≤ 9218868437227405312 ∧ double.nearest neg m e = (if neg then 9223372036854775808 + r else r) := by
  unfold Format.nearest
  simp only [Format.word, dsw, dinf]
  split
  · exact ⟨0, by omega, rfl⟩
  · exact ⟨_, Nat.min_le_right _ _, rfl⟩
theorem not_nan_word {neg : Bool} {r : Nat} (h : r ≤ 9218868437227405312) : isNaN (if neg then 9223372036854775808 + r else r) = false := by
  unfold isNaN
  simp only [decide_eq_false_iff_not]
  split <;> omega
theorem write_not_nan {d : Datum} (h : d.isNaN = false) : isNaN (double.write d) = false := by
  cases d with
  | number s m e =>
    obtain ⟨r, hr, he⟩ := nearest_rung s m e
    rw [show double.write (.number s m e) = double.nearest s m e from rfl, he]
    exact not_nan_word hr
  | infinity s =>
    rw [show double.write (.infinity s) = double.word s double.infRung from rfl, dinf]
    exact not_nan_word (neg := s) (Nat.le_refl _)
  | nan => simp [Datum.isNaN] at h
theorem sum_not_nan {d e f : Datum} (h : d.sum e = some f) : f.isNaN = false := by
  cases d <;> cases e <;> simp only [Datum.sum] at h <;> first | (cases h; done) | skip
  · obtain rfl := Option.some.inj h; rfl
  · obtain rfl := Option.some.inj h; rfl
  · obtain rfl := Option.some.inj h; rfl
  · split at h
    · obtain rfl := Option.some.inj h; rfl
    · cases h
theorem add_not_nan {x y r : Nat} (h : double.add x y = some r) : isNaN r = false := by
  unfold Format.add at h
  obtain ⟨d, hd, rfl⟩ := Option.map_eq_some_iff.1 h
  exact write_not_nan (sum_not_nan hd)
/-- sums of floats from nought on -/
theorem read_pos {x : Nat} (h : x ≤ INF) : (∃ m e, double.read x = .number false m e) ∨ double.read x = .infinity false := by
  unfold INF at h
  have h0 : x % 9223372036854775808 = x := Nat.mod_eq_of_lt (by omega)
  have h1 : x / 9223372036854775808 = 0 := Nat.div_eq_of_lt (by omega)
  by_cases h2 : x < 9218868437227405312
  · exact .inl ⟨_, _, by rw [read_fin x (by omega), h1]; rfl⟩
  · refine .inr ?_
    rw [read_inf x (by omega), h1]
    rfl
theorem add_pos {x y : Nat} (hx : x ≤ INF) (hy : y ≤ INF) : ∃ r, double.add x y = some r ∧ r ≤ INF := by
  unfold Format.add
  rcases read_pos hx with ⟨m, e, h⟩ | h <;> rcases read_pos hy with ⟨n, f, g⟩ | g <;> rw [h, g]
  · refine ⟨_, rfl, ?_⟩
    show double.nearest _ _ _ ≤ _
    have hneg : (if signed false m (e - min e f).toNat + signed false n (f - min e f).toNat = 0 then (false && false) else decide (signed false m (e - min e f).toNat + signed false n (f - min e f).toNat < 0)) = false := by
      split
      · rfl
      · have a : 0 ≤ signed false m (e - min e f).toNat := by unfold signed; simp only [Bool.false_eq_true, if_false]; exact Int.natCast_nonneg _
        have b : 0 ≤ signed false n (f - min e f).toNat := by unfold signed; simp only [Bool.false_eq_true, if_false]; exact Int.natCast_nonneg _
        simp only [decide_eq_false_iff_not]
        omega
    rw [hneg]
    obtain ⟨r, hr, he⟩ := nearest_rung false (signed false m (e - min e f).toNat + signed false n (f - min e f).toNat).natAbs (min e f)
    rw [he]
    exact hr
  all_goals (refine ⟨_, rfl, ?_⟩; show double.word false double.infRung ≤ _; rw [dinf]; decide)
end Go.Proofs.Ytjppanekddljbaa.Fl
/- Floats by their bits: their order, from nought on. -/
namespace Go.Proofs.Ytjppanekddljbaa.Fl
open Ieee
theorem magOf_lt (r : Nat) : magOf r < 9007199254740992 := by
  unfold magOf
  have := Nat.mod_lt r (show 0 < 4503599627370496 by decide)
  split <;> omega
theorem rung_eq (r : Nat) : r = expOf r * 4503599627370496 + magOf r := by
  unfold expOf magOf
  have h := Nat.div_add_mod r 4503599627370496
  by_cases h1 : r < 4503599627370496
  · rw [if_pos h1, Nat.div_eq_of_lt h1]; omega
  · rw [if_neg h1]
    have : 1 ≤ r / 4503599627370496 := by omega
    obtain ⟨q, hq⟩ : ∃ q, r / 4503599627370496 = q + 1 := ⟨r / 4503599627370496 - 1, by omega⟩
    rw [hq] at h ⊢
    omega
theorem mag_ge {r : Nat} (h : 0 < expOf r) : 4503599627370496 ≤ magOf r := by
  unfold expOf at h
  unfold magOf
  split <;> omega
/-- a rung's value, in units of the least -/
def valOf (r : Nat) : Nat := magOf r * 2 ^ expOf r
theorem pow_lt_of {a b : Nat} (h : a < b) : 2 * 2 ^ a ≤ 2 ^ b := by
  rw [Nat.mul_comm, ← Nat.pow_succ]
  exact Nat.pow_le_pow_right (by decide) h
theorem val_lt {r s : Nat} (h : r < s) : valOf r < valOf s := by
  have e1 := rung_eq r
  have e2 := rung_eq s
  have m1 := magOf_lt r
  have m2 := magOf_lt s
  unfold valOf
  rcases Nat.lt_trichotomy (expOf r) (expOf s) with hl | he | hg
  · have g := mag_ge (r := s) (by omega)
    have p := pow_lt_of hl
    have p0 : 0 < 2 ^ expOf r := Nat.two_pow_pos _
    calc magOf r * 2 ^ expOf r < 9007199254740992 * 2 ^ expOf r := Nat.mul_lt_mul_of_pos_right m1 p0
      _ = 4503599627370496 * (2 * 2 ^ expOf r) := by omega
      _ ≤ 4503599627370496 * 2 ^ expOf s := Nat.mul_le_mul_left _ p
      _ ≤ magOf s * 2 ^ expOf s := Nat.mul_le_mul_right _ g
  · rw [he]
    rw [he] at e1
    exact Nat.mul_lt_mul_of_pos_right (by omega) (Nat.two_pow_pos _)
  · exfalso
    have g := mag_ge (r := r) (by omega)
    have : (expOf s + 1) * 4503599627370496 ≤ expOf r * 4503599627370496 := Nat.mul_le_mul_right _ hg
    omega
theorem val_compare (r s : Nat) : compare (valOf r : Int) (valOf s : Int) = compare r s := by
  rcases Nat.lt_trichotomy r s with h | h | h
  · have := val_lt h
    rw [Nat.compare_eq_lt.2 h]
    exact Int.compare_eq_lt.2 (by omega)
  · subst h
    rw [Nat.compare_eq_eq.2 rfl]
    exact Int.compare_eq_eq.2 rfl
  · have := val_lt h
    rw [Nat.compare_eq_gt.2 h]
    exact Int.compare_eq_gt.2 (by omega)
theorem cmp_scale {a b : Int} {k : Nat} (hk : 0 < k) : compare (a * k) (b * k) = compare a b := by
  have hk' : (0 : Int) < (k : Int) := by omega
  rcases Int.lt_trichotomy a b with h | h | h
  · rw [Int.compare_eq_lt.2 h]; exact Int.compare_eq_lt.2 (Int.mul_lt_mul_of_pos_right h hk')
  · subst h; exact (Int.compare_eq_eq.2 rfl).trans (Int.compare_eq_eq.2 rfl).symm
  · rw [Int.compare_eq_gt.2 h]; exact Int.compare_eq_gt.2 (Int.mul_lt_mul_of_pos_right h hk')
theorem fin_pos {x : Nat} (h : x < INF) : double.read x = .number false (magOf x) (-1074 + (expOf x : Nat)) := by
  unfold INF at h
  have h0 : x % 9223372036854775808 = x := Nat.mod_eq_of_lt (by omega)
  have h1 : x / 9223372036854775808 = 0 := Nat.div_eq_of_lt (by omega)
  rw [read_fin x (by omega), h0, h1]
  rfl
theorem inf_pos : double.read INF = .infinity false := by decide
theorem shl_val (x : Nat) (b : Int) (hb : b ≤ -1074 + (expOf x : Nat)) (hb0 : -1074 ≤ b) :
    signed false (magOf x) (-1074 + (expOf x : Nat) - b).toNat * ((2 ^ (b + 1074).toNat : Nat) : Int) = (valOf x : Int) := by
  unfold signed valOf
  simp only [Bool.false_eq_true, if_false, Nat.shiftLeft_eq]
  rw [← Int.natCast_mul, Nat.mul_assoc, ← Nat.pow_add]
  congr 3
  omega
theorem order_pos {x y : Nat} (hx : x ≤ INF) (hy : y ≤ INF) : double.order x y = some (compare x y) := by
  unfold Format.order
  by_cases h1 : x < INF
  · by_cases h2 : y < INF
    · rw [fin_pos h1, fin_pos h2]
      simp only [Datum.order]
      congr 1
      obtain ⟨b, hbb⟩ : ∃ b : Int, min (-1074 + (expOf x : Nat) : Int) (-1074 + (expOf y : Nat)) = b := ⟨_, rfl⟩
      rw [hbb]
      have e1 := shl_val x b (by omega) (by omega)
      have e2 := shl_val y b (by omega) (by omega)
      rw [← cmp_scale (k := 2 ^ (b + 1074).toNat) (Nat.two_pow_pos _), e1, e2]
      exact val_compare x y
    · obtain rfl : y = INF := by omega
      rw [fin_pos h1, inf_pos]
      simp only [Datum.order]
      rw [Nat.compare_eq_lt.2 h1]; rfl
  · obtain rfl : x = INF := by omega
    by_cases h2 : y < INF
    · rw [fin_pos h2, inf_pos]
      simp only [Datum.order]
      rw [Nat.compare_eq_gt.2 h2]; rfl
    · obtain rfl : y = INF := by omega
      rw [inf_pos]
      simp only [Datum.order]
      rw [Nat.compare_eq_eq.2 rfl]; rfl
/-- a weight's worth -/
def worthF (x : Nat) : Nat := if x ≤ INF then x else 0
theorem gt_zero {x : Nat} (h : x < 18446744073709551616) : (double.order x 0 == some .gt) = decide (0 < x ∧ x ≤ INF) := by
  by_cases h1 : x ≤ INF
  · rw [order_pos h1 (by decide)]
    rcases Nat.eq_zero_or_pos x with h0 | h0
    · subst h0; decide
    · rw [Nat.compare_eq_gt.2 h0]; simp [h0, h1]
  · rw [show decide (0 < x ∧ x ≤ INF) = false from decide_eq_false (fun h => h1 h.2)]
    unfold INF at h1
    by_cases hn : isNaN x = true
    · rw [order_nan_left hn]; rfl
    · replace hn : isNaN x = false := Bool.eq_false_iff.mpr hn
      have hs : (x / 9223372036854775808 % 2 == 1) = true := by
        unfold isNaN at hn
        simp only [decide_eq_false_iff_not] at hn
        rw [beq_iff_eq]
        omega
      unfold isNaN at hn
      simp only [decide_eq_false_iff_not] at hn
      unfold Format.order
      rw [show double.read 0 = .number false 0 (-1074) from by decide]
      by_cases hf : x % 9223372036854775808 < 9218868437227405312
      · rw [read_fin x hf, hs]
        simp only [Datum.order]
        have a : signed true (magOf (x % 9223372036854775808)) (-1074 + (expOf (x % 9223372036854775808) : Nat) - min (-1074 + (expOf (x % 9223372036854775808) : Nat) : Int) (-1074)).toNat ≤ 0 := by
          unfold signed
          simp only [if_true]
          exact Int.neg_nonpos_of_nonneg (Int.natCast_nonneg _)
        have b : signed false 0 ((-1074 : Int) - min (-1074 + (expOf (x % 9223372036854775808) : Nat) : Int) (-1074)).toNat = 0 := by
          unfold signed
          simp
        rw [b]
        rcases Int.lt_or_eq_of_le a with a | a
        · rw [Int.compare_eq_lt.2 a]; rfl
        · rw [a]; decide
      · rw [read_inf x (by omega), hs]
        rfl
theorem worthF_eq {x : Nat} (h : x < 18446744073709551616) : (if (double.order x 0 == some .gt) = true then x else 0) = worthF x := by
  rw [gt_zero h]
  unfold worthF
  by_cases h1 : x ≤ INF
  · rw [if_pos h1]
    rcases Nat.eq_zero_or_pos x with h0 | h0
    · subst h0; simp
    · simp [h0, h1]
  · rw [if_neg h1]; simp [h1]
theorem worthF_le (x : Nat) : worthF x ≤ INF := by unfold worthF; split <;> first | assumption | decide
/-- greater than the greatest float: an infinity -/
theorem gt_max {x : Nat} (h : x ≤ INF) : (double.order x 9218868437227405311 == some .gt) = decide (x = INF) := by
  rw [order_pos h (by decide)]
  by_cases e : x = INF
  · subst e; decide
  · have hl : x < INF := by omega
    unfold INF at hl e
    have : x = 9218868437227405311 ∨ x < 9218868437227405311 := by omega
    rcases this with rfl | h2
    · decide
    · rw [Nat.compare_eq_lt.2 h2]
      simp [INF, e]
theorem eq_zero {x : Nat} (h : x ≤ INF) : (double.order x 0 == some .eq) = decide (x = 0) := by
  rw [order_pos h (by decide)]
  rcases Nat.eq_zero_or_pos x with h0 | h0
  · subst h0; decide
  · rw [Nat.compare_eq_gt.2 h0]; simp; omega
/-- quotients of floats from nought on -/
theorem div_one {y : Nat} (hy : y ≤ INF) : ∃ r, double.div ONE y = some r ∧ r ≤ INF := by
  unfold Format.div
  rw [show double.read ONE = .number false 4503599627370496 (-52) from by decide]
  rcases read_pos hy with ⟨n, f, g⟩ | g <;> rw [g] <;> simp only [Datum.quotient]
  · by_cases hn : n = 0
    · rw [if_pos hn, if_neg (by decide)]
      exact ⟨_, rfl, by decide⟩
    · rw [if_neg hn]
      refine ⟨_, rfl, ?_⟩
      obtain ⟨r, hr, he⟩ := nearest_rung false (2 * (4503599627370496 <<< (double.fractionBits + 2 + n.log2 - Nat.log2 4503599627370496) / n) + (4503599627370496 <<< (double.fractionBits + 2 + n.log2 - Nat.log2 4503599627370496) % n != 0).toNat) (-52 - f - (double.fractionBits + 2 + n.log2 - Nat.log2 4503599627370496 : Nat) - 1)
      show double.nearest _ _ _ ≤ _
      rw [show (false ^^ false) = false from rfl, he]
      exact hr
  · exact ⟨_, rfl, by decide⟩
theorem div_fin {x y : Nat} (hx : x < INF) (hy : y ≤ INF) (h0 : y ≠ 0) : ∃ r, double.div x y = some r ∧ r ≤ INF := by
  unfold Format.div
  rw [fin_pos hx]
  by_cases h1 : y < INF
  · rw [fin_pos h1]
    have hm : magOf y ≠ 0 := by
      intro hz
      have := rung_eq y
      have : expOf y = 0 := by
        rcases Nat.eq_zero_or_pos (expOf y) with h | h
        · exact h
        · have := mag_ge h; omega
      omega
    simp only [Datum.quotient]
    rw [if_neg hm]
    refine ⟨_, rfl, ?_⟩
    show double.nearest _ _ _ ≤ _
    obtain ⟨r, hr, he⟩ := nearest_rung (false ^^ false) (2 * (magOf x <<< (double.fractionBits + 2 + (magOf y).log2 - (magOf x).log2) / magOf y) + (magOf x <<< (double.fractionBits + 2 + (magOf y).log2 - (magOf x).log2) % magOf y != 0).toNat) ((-1074 + (expOf x : Nat)) - (-1074 + (expOf y : Nat)) - (double.fractionBits + 2 + (magOf y).log2 - (magOf x).log2 : Nat) - 1)
    rw [he]
    exact hr
  · obtain rfl : y = INF := by omega
    rw [inf_pos]
    simp only [Datum.quotient]
    exact ⟨_, rfl, by decide⟩
end Go.Proofs.Ytjppanekddljbaa.Fl
/- What the reference's functions on bits answer: Bits, length, Parts. -/
namespace Go.Proofs.Ytjppanekddljbaa.Lb
open Go.RowKit Go.Proofs.Ytjppanekddljbaa.Pr Go.Proofs.YtjppanekddljbaaW.PrintWords Go.Proofs.YtjppanekddljbaaW.PrintLast Go.Proofs.YtjppanekddljbaaW.PrintMore
open Go.Proofs.Ytjppanekddljbaa.Fl
def size (n : Nat) : Nat := if n = 0 then 0 else n.log2 + 1
theorem size_half {n : Nat} (h : n ≠ 0) : size n = size (n / 2) + 1 := by
  unfold size
  rw [if_neg h]
  by_cases h2 : n / 2 = 0
  · rw [if_pos h2, show n = 1 by omega]; decide
  · rw [if_neg h2, Nat.log2_def n, if_pos (by omega)]
theorem tdiv2 (n : Nat) : Int.tdiv (n : Int) 2 = ((n / 2 : Nat) : Int) := rfl
theorem bits_loop : ∀ (m : Nat) (x c : Nat), x ≤ m → x < 4294967296 → c + size x ≤ 1000000000 →
    Ev (fun k => sibylref01_Bits.l0 k (c : Int) (x : Int)) ((c + size x : Nat) : Int) := by
  intro m
  induction m with
  | zero =>
    intro x c hx _ _
    rw [show x = 0 by omega]
    exact Ev.step (f := fun _ => some (c : Int)) (fun k => by simp only [sibylref01_Bits.l0]; rw [if_neg (by omega)]) (Ev.now _)
  | succ m ih =>
    intro x c hx hlt hc
    by_cases h0 : x = 0
    · subst h0
      exact Ev.step (f := fun _ => some (c : Int)) (fun k => by simp only [sibylref01_Bits.l0]; rw [if_neg (by omega)]) (Ev.now _)
    · have hs := size_half h0
      refine Ev.step (f := fun k => sibylref01_Bits.l0 k ((c + 1 : Nat) : Int) ((x / 2 : Nat) : Int)) (fun k => ?_) ?_
      · simp only [sibylref01_Bits.l0]
        rw [if_pos (by omega), w64 (by omega) (by omega), tdiv2, modB (by omega)]
        rfl
      · have := ih (x / 2) (c + 1) (by omega) (by omega) (by omega)
        rw [show c + size x = c + 1 + size (x / 2) by omega]
        exact this
theorem size_mul {a n : Nat} (h : a ≠ 0) : size (a * 2 ^ n) = size a + n := by
  induction n with
  | zero => simp
  | succ n ih =>
    have h1 : a * 2 ^ (n + 1) ≠ 0 := Nat.mul_ne_zero h (Nat.ne_of_gt (Nat.two_pow_pos _))
    rw [size_half h1, show a * 2 ^ (n + 1) / 2 = a * 2 ^ n by rw [Nat.pow_succ, ← Nat.mul_assoc, Nat.mul_div_cancel _ (by decide)], ih]
    omega
theorem size_div (n i : Nat) (h : n / 2 ^ i ≠ 0) : size n = size (n / 2 ^ i) + i := by
  induction i with
  | zero => simp
  | succ i ih =>
    have e : n / 2 ^ (i + 1) = n / 2 ^ i / 2 := by rw [Nat.pow_succ, Nat.div_div_eq_div_mul]
    rw [e] at h ⊢
    have h1 : n / 2 ^ i ≠ 0 := by omega
    have h2 := size_half h1
    have := ih h1
    omega
theorem size_lt (n : Nat) : n < 2 ^ size n := by
  unfold size
  by_cases h : n = 0
  · rw [if_pos h]; omega
  · rw [if_neg h]; exact Nat.lt_log2_self
theorem size_le_of_lt {n m : Nat} (h : n < 2 ^ m) : size n ≤ m := by
  unfold size
  by_cases h0 : n = 0
  · rw [if_pos h0]; omega
  · rw [if_neg h0]; exact (Nat.log2_lt h0).2 h
theorem size_ge {n : Nat} (h : n ≠ 0) : 2 ^ (size n - 1) ≤ n := by
  unfold size
  rw [if_neg h, Nat.add_sub_cancel]
  exact Nat.log2_self_le h
theorem bits_ev {a : List Nat} (ha : Lim a) (hla : a.length ≤ 1000000) : Ev (fun k => sibylref01_Bits.f k (U a)) ((size (val a) : Nat) : Int) := by
  unfold sibylref01_Bits.f
  refine Ev.bind (trim_ev ha hla) ?_
  have n1 := norm_len ha
  rw [U_length]
  by_cases h0 : val a = 0
  · rw [h0, norm_zero]
    exact Ev.congr (f := fun _ => some 0) (fun k => if_pos (by simp)) (Ev.now _)
  · obtain ⟨b, x, hb, hx⟩ : ∃ b x, norm (val a) = b ++ [x] ∧ x ≠ 0 := by
      rcases norm_last (val a) with h | h
      · have := val_norm (val a); rw [h] at this; exact absurd this.symm h0
      · exact h
    have hlen : (norm (val a)).length = b.length + 1 := by rw [hb]; simp
    have hxl : x < 4294967296 := lim_norm (val a) x (by rw [hb]; simp)
    have hgd : (norm (val a)).getD b.length 0 = x := by rw [hb, List.getD, List.getElem?_append_right (Nat.le_refl _)]; simp
    have hv : val a / 2 ^ (32 * b.length) = x := by
      have h1 := val_norm (val a)
      rw [hb, val_snoc, pow32] at h1
      have h2 : val b < 2 ^ (32 * b.length) := by
        rw [← pow32]
        exact val_lt (fun y hy => lim_norm (val a) y (by rw [hb]; simp [hy]))
      rw [← h1, Nat.add_mul_div_left _ _ (Nat.two_pow_pos _), Nat.div_eq_of_lt h2, Nat.zero_add]
    have hs := size_div (val a) (32 * b.length) (by rw [hv]; exact hx)
    rw [hv] at hs
    have hsx : size x ≤ 32 := size_le_of_lt (by simpa using hxl)
    refine Ev.congr (f := fun k => sibylref01_Bits.l0 k ((32 * b.length : Nat) : Int) (x : Int)) (fun k => ?_) ?_
    · rw [if_neg (by omega), if_pos (by rw [w64 (by omega) (by omega)]; omega), if_pos (by rw [w64 (by omega) (by omega)]; omega),
        show wrap64 (((norm (val a)).length : Int) - 1) = (b.length : Int) from by rw [w64 (by omega) (by omega)]; omega, rd_U, hgd, w64 (by omega) (by omega)]
      rfl
    · have := bits_loop x x (32 * b.length) (Nat.le_refl _) hxl (by omega)
      rw [hs, Nat.add_comm]
      exact this
theorem length_loop : ∀ (m : Nat) (x c : Nat), size x = m → x < 18446744073709551616 → c + size x ≤ 1000 →
    Ev (fun k => sibylref03_length.l0 k (x : Int) (c : Int)) ((c + size x : Nat) : Int) := by
  intro m
  induction m with
  | zero =>
    intro x c hx _ _
    have h0 : x = 0 := by
      refine Decidable.byContradiction fun h => ?_
      unfold size at hx; rw [if_neg h] at hx; omega
    subst h0
    exact Ev.step (f := fun _ => some (c : Int)) (fun k => by simp only [sibylref03_length.l0]; rw [if_neg (by omega)]) (Ev.now _)
  | succ m ih =>
    intro x c hx hlt hc
    have h0 : x ≠ 0 := fun h => by subst h; simp [size] at hx
    have hs := size_half h0
    refine Ev.step (f := fun k => sibylref03_length.l0 k ((x / 2 : Nat) : Int) ((c + 1 : Nat) : Int)) (fun k => ?_) ?_
    · simp only [sibylref03_length.l0]
      rw [if_pos (by omega), w64 (by omega) (by omega), tdiv2, wuN (by omega)]
      rfl
    · have := ih (x / 2) (c + 1) (by omega) (by omega) (by omega)
      rw [show c + size x = c + 1 + size (x / 2) by omega]
      exact this
theorem length_ev {x : Nat} (hx : x < 18446744073709551616) : Ev (fun k => sibylref03_length.f k (x : Int)) ((size x : Nat) : Int) := by
  have h1 : size x ≤ 64 := size_le_of_lt (by simpa using hx)
  have := length_loop (size x) x 0 rfl hx (by omega)
  rw [Nat.zero_add] at this
  exact this
theorem tmod63 (x : Nat) : Int.tmod (x : Int) 9223372036854775808 = ((x % 9223372036854775808 : Nat) : Int) := (Int.ofNat_tmod x 9223372036854775808).symm
theorem isNaN_ev (x : Nat) : sibylref03_IsNaN.f (x : Int) = some (isNaN x) := by
  unfold sibylref03_IsNaN.f sibylref03_Size.f isNaN
  rw [tmod63]
  simp only [Option.bind_some, Option.some.injEq]
  exact decide_eq_decide.2 (by omega)
end Go.Proofs.Ytjppanekddljbaa.Lb
/- Rounding to nearest, ties to even, plain. -/
namespace Go.Proofs.Ytjppanekddljbaa.Fl
open Ieee
/-- n / 2 ^ d, to the nearest whole number, ties to even -/
def rhe (n d : Nat) : Nat := n / 2 ^ d + (decide (2 ^ d < 2 * (n % 2 ^ d)) || (decide (2 ^ d = 2 * (n % 2 ^ d)) && decide (n / 2 ^ d % 2 = 1))).toNat
theorem rhe_zero (n : Nat) : rhe n 0 = n := by
  unfold rhe
  rw [Nat.pow_zero, Nat.mod_one, Nat.div_one]
  simp
theorem rhe_small {n d : Nat} (h : 2 * n < 2 ^ d) : rhe n d = 0 := by
  unfold rhe
  rw [Nat.div_eq_of_lt (by omega), Nat.mod_eq_of_lt (by omega)]
  rw [decide_eq_false (by omega), decide_eq_false (by omega)]
  rfl
theorem rhe_le (n d : Nat) : rhe n d ≤ n / 2 ^ d + 1 := by
  unfold rhe
  have : ∀ b : Bool, b.toNat ≤ 1 := fun b => by cases b <;> decide
  have := this (decide (2 ^ d < 2 * (n % 2 ^ d)) || (decide (2 ^ d = 2 * (n % 2 ^ d)) && decide (n / 2 ^ d % 2 = 1)))
  omega
theorem rhe_ge (n d : Nat) : n / 2 ^ d ≤ rhe n d := by unfold rhe; omega
theorem rhe_shift (n d k : Nat) : rhe (n * 2 ^ k) (d + k) = rhe n d := by
  unfold rhe
  have hk : 0 < 2 ^ k := Nat.two_pow_pos k
  rw [Nat.pow_add, Nat.mul_div_mul_right _ _ hk, Nat.mul_mod_mul_right]
  have e : 2 * (n % 2 ^ d * 2 ^ k) = 2 * (n % 2 ^ d) * 2 ^ k := by rw [Nat.mul_assoc]
  rw [e]
  congr 3
  · exact decide_eq_decide.2 (Nat.mul_lt_mul_right hk)
  · congr 1
    exact decide_eq_decide.2 ⟨fun h => Nat.eq_of_mul_eq_mul_right hk h, fun h => congrArg (· * 2 ^ k) h⟩
theorem cut_eq (neg : Bool) (n d : Nat) : Toward.even.cut neg n d = rhe n d := by
  have key : ∀ g, Toward.even.cut neg n g = (n / (1 <<< min g (n.log2 + 2))) + (decide (1 <<< min g (n.log2 + 2) < 2 * (n % (1 <<< min g (n.log2 + 2)))) || (1 <<< min g (n.log2 + 2) == 2 * (n % (1 <<< min g (n.log2 + 2))) && (n / (1 <<< min g (n.log2 + 2)) % 2 == 1))).toNat := fun g => rfl
  rw [key]
  rcases Nat.le_total d (n.log2 + 2) with h | h
  · rw [Nat.min_eq_left h, Nat.one_shiftLeft]
    unfold rhe
    rfl
  · rw [Nat.min_eq_right h, Nat.one_shiftLeft]
    have hl : n < 2 ^ (n.log2 + 1) := Nat.lt_log2_self
    have h2 : 2 ^ (n.log2 + 2) ≤ 2 ^ d := Nat.pow_le_pow_right (by decide) h
    have h3 : 2 ^ (n.log2 + 2) = 2 * 2 ^ (n.log2 + 1) := by rw [Nat.pow_succ, Nat.mul_comm]
    rw [rhe_small (n := n) (d := d) (by omega)]
    rw [Nat.div_eq_of_lt (by omega), Nat.mod_eq_of_lt (by omega)]
    rw [decide_eq_false (by omega)]
    have : (2 ^ (n.log2 + 2) == 2 * n) = false := by rw [beq_eq_false_iff_ne]; omega
    rw [this]
    rfl
/-- what is kept of mag / 2 ^ D -/
def keptOf (mag : Nat) (D : Int) : Nat := rhe (mag * 2 ^ (-D).toNat) D.toNat
theorem rhe_mul (a m : Nat) : rhe (a * 2 ^ m) m = a := by
  have := rhe_shift a 0 m
  rwa [Nat.zero_add, rhe_zero] at this
theorem kept_shift (mag k : Nat) (D : Int) : keptOf (mag * 2 ^ k) (D + k) = keptOf mag D := by
  unfold keptOf
  rcases Int.le_total 0 D with h | h
  · rw [show (-(D + k)).toNat = 0 by omega, show (-D).toNat = 0 by omega, Nat.pow_zero, Nat.mul_one, Nat.mul_one, show (D + k).toNat = D.toNat + k by omega]
    exact rhe_shift _ _ _
  · rw [show D.toNat = 0 by omega, rhe_zero]
    rcases Int.le_total 0 (D + k) with h2 | h2
    · rw [show (-(D + k)).toNat = 0 by omega, Nat.pow_zero, Nat.mul_one]
      have : mag * 2 ^ k = mag * 2 ^ (-D).toNat * 2 ^ (D + k).toNat := by
        rw [Nat.mul_assoc, ← Nat.pow_add]; congr 2; omega
      rw [this, rhe_mul]
    · rw [show (D + k).toNat = 0 by omega, rhe_zero, Nat.mul_assoc, ← Nat.pow_add]
      congr 2; omega
/-- the rung of mag * 2 ^ place -/
def lastOf (mag : Nat) (place : Int) : Int := max (place + mag.log2 - 52) (-1074)
def rn (mag : Nat) (place : Int) : Nat := if mag = 0 then 0 else min ((lastOf mag place + 1074).toNat * 4503599627370496 + keptOf mag (lastOf mag place - place)) 9218868437227405312
theorem nearest_eq (neg : Bool) (mag : Nat) (place : Int) : double.nearest neg mag place = if neg then 9223372036854775808 + rn mag place else rn mag place := by
  unfold Format.nearest rn
  simp only [Format.word, dsw, dinf, dbin, dleast, dfrac, cut_eq]
  by_cases h : mag = 0
  · rw [if_pos h, if_pos h]
  · rw [if_neg h, if_neg h]
    have e1 : (max (place + (mag.log2 : Int) - ((52 : Nat) : Int)) (-1074)) = lastOf mag place := rfl
    rw [e1]
    have e2 : (lastOf mag place - -1074).toNat = (lastOf mag place + 1074).toNat := by congr 1
    rw [e2, Nat.shiftLeft_eq]
    have e3 : (-(lastOf mag place - place)).toNat = (place - lastOf mag place).toNat := by congr 1; omega
    unfold keptOf
    rw [e3]
theorem log2_mul {mag : Nat} (h : mag ≠ 0) (k : Nat) : (mag * 2 ^ k).log2 = mag.log2 + k := by
  have hne : mag * 2 ^ k ≠ 0 := Nat.mul_ne_zero h (Nat.ne_of_gt (Nat.two_pow_pos _))
  rw [Nat.log2_eq_iff hne]
  have h1 := Nat.log2_self_le h
  have h2 := Nat.lt_log2_self (n := mag)
  rw [Nat.pow_add, show mag.log2 + k + 1 = (mag.log2 + 1) + k by omega, Nat.pow_add]
  exact ⟨Nat.mul_le_mul_right _ h1, Nat.mul_lt_mul_of_pos_right h2 (Nat.two_pow_pos _)⟩
theorem rn_shift (mag k : Nat) (place : Int) : rn (mag * 2 ^ k) place = rn mag (place + k) := by
  unfold rn
  by_cases h : mag = 0
  · subst h; simp
  · have hne : mag * 2 ^ k ≠ 0 := Nat.mul_ne_zero h (Nat.ne_of_gt (Nat.two_pow_pos _))
    rw [if_neg hne, if_neg h]
    have e : lastOf (mag * 2 ^ k) place = lastOf mag (place + k) := by
      unfold lastOf
      rw [log2_mul h]
      congr 1
      omega
    rw [e]
    have e2 : lastOf mag (place + k) - place = (lastOf mag (place + k) - (place + k)) + k := by omega
    rw [e2, kept_shift]
/-- what is left over only has to be told from nothing -/
def sticky (n s : Nat) : Nat := 2 * (n / 2 ^ s) + (n % 2 ^ s != 0).toNat
theorem rhe_sticky (n s e : Nat) (he : 1 ≤ e) : rhe (sticky n s) (e + 1) = rhe n (s + e) := by
  unfold rhe sticky
  have hs : 0 < 2 ^ s := Nat.two_pow_pos s
  obtain ⟨h, hh⟩ : ∃ h, 2 ^ e = 2 * h := ⟨2 ^ (e - 1), by rw [Nat.mul_comm, ← Nat.pow_succ]; congr 1; omega⟩
  have hhp : 0 < h := by have := Nat.two_pow_pos e; omega
  obtain ⟨q, hq⟩ : ∃ q, n / 2 ^ s = q := ⟨_, rfl⟩
  obtain ⟨r, hr⟩ : ∃ r, n % 2 ^ s = r := ⟨_, rfl⟩
  have hrl : r < 2 ^ s := by rw [← hr]; exact Nat.mod_lt _ hs
  have d1 : n / 2 ^ (s + e) = q / 2 ^ e := by rw [Nat.pow_add, ← Nat.div_div_eq_div_mul, hq]
  have m1 : n % 2 ^ (s + e) = (q % 2 ^ e) * 2 ^ s + r := by
    rw [Nat.pow_add, Nat.mod_mul, hq, hr, Nat.mul_comm]; omega
  rw [d1, m1, hq, hr]
  obtain ⟨b, hb⟩ : ∃ b, (r != 0).toNat = b := ⟨_, rfl⟩
  have hb2 : b = 0 ∧ r = 0 ∨ b = 1 ∧ 0 < r := by
    by_cases h0 : r = 0
    · subst h0; left; exact ⟨hb.symm, rfl⟩
    · right
      have : (r != 0) = true := by simpa using h0
      rw [this] at hb
      exact ⟨hb.symm, by omega⟩
  rw [hb]
  have d2 : (2 * q + b) / 2 ^ (e + 1) = q / 2 ^ e := by
    rw [Nat.pow_succ, Nat.mul_comm (2 ^ e), ← Nat.div_div_eq_div_mul]
    congr 1
    omega
  have m2 : (2 * q + b) % 2 ^ (e + 1) = 2 * (q % 2 ^ e) + b := by
    rw [Nat.pow_succ, Nat.mul_comm (2 ^ e), Nat.mod_mul]
    have a1 : (2 * q + b) % 2 = b := by omega
    have a2 : (2 * q + b) / 2 = q := by omega
    rw [a1, a2]; omega
  rw [d2, m2, Nat.pow_succ, hh]
  obtain ⟨Q, hQ⟩ : ∃ Q, q % (2 * h) = Q := ⟨_, rfl⟩
  have hP : 2 ^ (s + e) = 2 ^ s * (2 * h) := by rw [Nat.pow_add, hh]
  rw [hQ, hP]
  obtain ⟨P, hPP⟩ : ∃ P, 2 ^ s = P := ⟨_, rfl⟩
  rw [hPP] at hrl hs ⊢
  have e1 : 2 * (Q * P + r) = P * (2 * Q) + 2 * r := by rw [Nat.mul_add, Nat.mul_comm Q P, Nat.mul_left_comm]
  rw [e1]
  congr 3
  · -- strictly more than half
    refine decide_eq_decide.2 ?_
    rcases Nat.lt_trichotomy Q h with hlt | heq | hgt
    · constructor
      · intro hc; omega
      · intro hc
        have : P * (2 * Q) + P * 2 ≤ P * (2 * h) := by rw [← Nat.mul_add]; exact Nat.mul_le_mul_left _ (by omega)
        omega
    · subst heq; omega
    · constructor
      · intro _
        have : P * (2 * h) + P * 2 ≤ P * (2 * Q) := by rw [← Nat.mul_add]; exact Nat.mul_le_mul_left _ (by omega)
        omega
      · intro _; omega
  · congr 1
    refine decide_eq_decide.2 ?_
    rcases Nat.lt_trichotomy Q h with hlt | heq | hgt
    · have : P * (2 * Q) + P * 2 ≤ P * (2 * h) := by rw [← Nat.mul_add]; exact Nat.mul_le_mul_left _ (by omega)
      omega
    · subst heq; omega
    · have : P * (2 * h) + P * 2 ≤ P * (2 * Q) := by rw [← Nat.mul_add]; exact Nat.mul_le_mul_left _ (by omega)
      omega
theorem log2_div {n s : Nat} (h : n / 2 ^ s ≠ 0) : n.log2 = (n / 2 ^ s).log2 + s := by
  have hs : 0 < 2 ^ s := Nat.two_pow_pos s
  have hn : n ≠ 0 := fun h0 => by rw [h0, Nat.zero_div] at h; exact h rfl
  rw [Nat.log2_eq_iff hn]
  have h1 := Nat.log2_self_le h
  have h2 := Nat.lt_log2_self (n := n / 2 ^ s)
  rw [Nat.pow_add, show (n / 2 ^ s).log2 + s + 1 = ((n / 2 ^ s).log2 + 1) + s by omega, Nat.pow_add]
  exact ⟨(Nat.le_div_iff_mul_le hs).1 h1, (Nat.div_lt_iff_lt_mul hs).1 h2⟩
theorem log2_twice {q b : Nat} (h : q ≠ 0) (hb : b ≤ 1) : (2 * q + b).log2 = q.log2 + 1 := by
  rw [Nat.log2_eq_iff (by omega)]
  have h1 := Nat.log2_self_le h
  have h2 := Nat.lt_log2_self (n := q)
  rw [Nat.pow_succ, Nat.pow_succ 2 (q.log2 + 1)]
  omega
theorem rn_sticky {n s : Nat} (place : Int) (h : 2 ^ 53 ≤ n / 2 ^ s) : rn (sticky n s) (place + s - 1) = rn n place := by
  have hq : n / 2 ^ s ≠ 0 := fun h0 => by rw [h0] at h; simp at h
  have hb : (n % 2 ^ s != 0).toNat ≤ 1 := by cases (n % 2 ^ s != 0) <;> decide
  have hl := log2_div hq
  have hn : n ≠ 0 := fun h0 => by rw [h0, Nat.zero_div] at hq; exact hq rfl
  have hst : (sticky n s).log2 = (n / 2 ^ s).log2 + 1 := log2_twice hq hb
  have hs0 : sticky n s ≠ 0 := by unfold sticky; omega
  have h54 : 53 ≤ (n / 2 ^ s).log2 := (Nat.le_log2 hq).2 h
  unfold rn
  rw [if_neg hs0, if_neg hn]
  have e : lastOf (sticky n s) (place + s - 1) = lastOf n place := by
    unfold lastOf
    rw [hst, hl]
    congr 1
    omega
  rw [e]
  have hD : (n / 2 ^ s).log2 + s - 52 ≤ lastOf n place - place := by
    unfold lastOf
    rw [hl]
    omega
  unfold keptOf
  rw [show (-(lastOf n place - (place + s - 1))).toNat = 0 by omega, show (-(lastOf n place - place)).toNat = 0 by omega, Nat.pow_zero, Nat.mul_one, Nat.mul_one]
  have e2 := rhe_sticky n s ((lastOf n place - place).toNat - s) (by omega)
  rw [show s + ((lastOf n place - place).toNat - s) = (lastOf n place - place).toNat by omega] at e2
  rw [← e2]
  congr 3
  omega
end Go.Proofs.Ytjppanekddljbaa.Fl
/- What the reference's Parts and Join answer, over Ieee's words. -/
namespace Go.Proofs.Ytjppanekddljbaa.Lb
open Go.RowKit Go.Proofs.Ytjppanekddljbaa.Pr Go.Proofs.YtjppanekddljbaaW.PrintWords Go.Proofs.YtjppanekddljbaaW.PrintLast Go.Proofs.YtjppanekddljbaaW.PrintMore
open Go.Proofs.Ytjppanekddljbaa.Fl
theorem tmod2 (n : Nat) : Int.tmod (n : Int) 2 = ((n % 2 : Nat) : Int) := (Int.ofNat_tmod n 2).symm
theorem parts_loop (x : Int) : ∀ (n man : Nat) (e : Int), size man ≤ n → man ≠ 0 → man < 18446744073709551616 → -100000 ≤ e → e + size man ≤ 100000 →
    ∃ m t : Nat, man = m * 2 ^ t ∧ m % 2 = 1 ∧ Ev (fun k => sibylref03_Parts.l0 k x (man : Int) e) (decide (x ≥ 9223372036854775808), (m : Int), e + (t : Int), 0) := by
  intro n
  induction n with
  | zero =>
    intro man e hs h0
    have : size man = 0 := by omega
    unfold size at this
    rw [if_neg h0] at this
    omega
  | succ n ih =>
    intro man e hs h0 hlt he1 he2
    have hsz := size_half h0
    by_cases hodd : man % 2 = 1
    · refine ⟨man, 0, by simp, hodd, ?_⟩
      refine Ev.step (f := fun _ => some (decide (x ≥ 9223372036854775808), (man : Int), e, 0)) (fun k => ?_) ?_
      · simp only [sibylref03_Parts.l0]; rw [tmod2, if_neg (by omega)]
      · rw [show e + ((0 : Nat) : Int) = e by omega]; exact Ev.now _
    · obtain ⟨m, t, h1, h2, h3⟩ := ih (man / 2) (e + 1) (by omega) (by omega) (by omega) (by omega) (by omega)
      refine ⟨m, t + 1, by rw [Nat.pow_succ, ← Nat.mul_assoc, ← h1]; omega, h2, ?_⟩
      refine Ev.step (f := fun k => sibylref03_Parts.l0 k x ((man / 2 : Nat) : Int) (e + 1)) (fun k => ?_) ?_
      · simp only [sibylref03_Parts.l0]
        rw [tmod2, if_pos (by omega), tdiv2, wuN (by omega), w64 (by omega) (by omega)]
      · rw [show e + ((t + 1 : Nat) : Int) = e + 1 + (t : Int) by omega]; exact h3
theorem tmod52 (x : Nat) : Int.tmod (x : Int) 4503599627370496 = ((x % 4503599627370496 : Nat) : Int) := (Int.ofNat_tmod x 4503599627370496).symm
theorem size_le64 {x : Nat} (h : x < 18446744073709551616) : size x ≤ 64 := size_le_of_lt (by simpa using h)
theorem parts_ev {x : Nat} (hfin : x % 9223372036854775808 < 9218868437227405312) (h0 : x % 9223372036854775808 ≠ 0) :
    ∃ m t : Nat, magOf (x % 9223372036854775808) = m * 2 ^ t ∧ m % 2 = 1 ∧
      Ev (fun k => sibylref03_Parts.f k (x : Int)) (decide ((x : Int) ≥ 9223372036854775808), (m : Int), -1074 + (expOf (x % 9223372036854775808) : Nat) + (t : Int), 0) := by
  obtain ⟨r, hr⟩ : ∃ r, x % 9223372036854775808 = r := ⟨_, rfl⟩
  rw [hr] at hfin h0 ⊢
  have hml := magOf_lt r
  have hm0 : magOf r ≠ 0 := by
    intro hz
    have e1 := rung_eq r
    rcases Nat.eq_zero_or_pos (expOf r) with h | h
    · rw [h, hz] at e1; omega
    · have := mag_ge h; omega
  have hel : expOf r < 2046 := by unfold expOf; omega
  have hs := size_le64 (x := magOf r) (by omega)
  obtain ⟨m, t, h1, h2, h3⟩ := parts_loop (x : Int) (size (magOf r)) (magOf r) (-1074 + (expOf r : Nat)) (Nat.le_refl _) hm0 (by omega) (by omega) (by omega)
  refine ⟨m, t, h1, h2, ?_⟩
  refine Ev.congr (f := fun k => sibylref03_Parts.j0 k (x : Int) (magOf r : Int) ((expOf r : Nat) + 1)) (fun k => ?_) ?_
  · unfold sibylref03_Parts.f sibylref03_Size.f
    rw [tmod63, hr]
    simp only [Option.bind_some]
    rw [if_neg (by omega), if_neg (by omega), show ((r : Nat) : Int) / 4503599627370496 = ((r / 4503599627370496 : Nat) : Int) from rfl, w64 (by omega) (by omega), tmod52]
    by_cases hz : r / 4503599627370496 = 0
    · have hl : r < 4503599627370496 := by omega
      rw [if_pos (by omega)]
      simp only [magOf, expOf, if_pos hl, hz, Nat.mod_eq_of_lt hl]
      rfl
    · have hl : ¬ r < 4503599627370496 := by omega
      rw [if_neg (by omega)]
      simp only [magOf, expOf, if_neg hl]
      rw [wu64 (by omega) (by omega)]
      congr 1
      · omega
      · omega
  · refine Ev.step (f := fun k => sibylref03_Parts.l0 k (x : Int) (magOf r : Int) (-1074 + (expOf r : Nat))) (fun k => ?_) h3
    simp only [sibylref03_Parts.j0]
    congr 1
    rw [w64 (by omega) (by omega)]
    omega
theorem parts_zero {x : Nat} (h : x % 9223372036854775808 = 0) : Ev (fun k => sibylref03_Parts.f k (x : Int)) (decide ((x : Int) ≥ 9223372036854775808), 0, 0, 0) := by
  refine Ev.congr (f := fun _ => some (decide ((x : Int) ≥ 9223372036854775808), 0, 0, 0)) (fun k => ?_) (Ev.now _)
  unfold sibylref03_Parts.f sibylref03_Size.f
  rw [tmod63, h]
  simp only [Option.bind_some]
  rw [if_neg (by omega), if_pos (by omega)]
theorem wuE (x : Int) : IntKind.u64.wrap x = x % 18446744073709551616 := by simp [IntKind.wrap, IntKind.bits, IntKind.signed]
theorem join_tail {sg : Nat} (hsg : sg ≤ 9223372036854775808) {q : Int} {m : Nat} (hq0 : -1074 ≤ q) (hq1 : q ≤ 10000) (hm : m ≤ 9007199254740992) (hlow : m < 4503599627370496 → q = -1074) :
    Ev (fun k => sibylref03_Join.j4 k (sg : Int) q (m : Int)) ((sg + min ((q + 1074).toNat * 4503599627370496 + m) 9218868437227405312 : Nat) : Int) := by
  by_cases h53 : m = 9007199254740992
  · refine Ev.step2 (f := fun _ => some ((sg + min ((q + 1074).toNat * 4503599627370496 + m) 9218868437227405312 : Nat) : Int)) (fun k => ?_) (Ev.now _)
    simp only [sibylref03_Join.j4]
    rw [if_pos (by omega)]
    simp only [sibylref03_Join.j5]
    rw [if_neg (by omega), w64 (x := q + 1) (by omega) (by omega), w64 (x := q + 1 + 1075) (by omega) (by omega)]
    by_cases hbig : q + 1 + 1075 > 2046
    · rw [if_pos hbig, Nat.min_eq_right (by omega)]
      refine congrArg some ?_
      rw [wuE]; omega
    · rw [if_neg hbig, Nat.min_eq_left (by omega)]
      refine congrArg some ?_
      simp only [wuE]; omega
  · refine Ev.step2 (f := fun _ => some ((sg + min ((q + 1074).toNat * 4503599627370496 + m) 9218868437227405312 : Nat) : Int)) (fun k => ?_) (Ev.now _)
    simp only [sibylref03_Join.j4]
    rw [if_neg (by omega)]
    simp only [sibylref03_Join.j5]
    by_cases hsub : m < 4503599627370496
    · have := hlow hsub
      subst this
      rw [if_pos (by omega), Nat.min_eq_left (by omega)]
      refine congrArg some ?_
      rw [wuE]; omega
    · rw [if_neg (by omega), w64 (x := q + 1075) (by omega) (by omega)]
      by_cases hbig : q + 1075 > 2046
      · rw [if_pos hbig, Nat.min_eq_right (by omega)]
        refine congrArg some ?_
        rw [wuE]; omega
      · rw [if_neg hbig, Nat.min_eq_left (by omega)]
        refine congrArg some ?_
        simp only [wuE]; omega
theorem join_up {sg man : Nat} {q : Int} {r : Int} (hq0 : -1074 ≤ q) (hq1 : q ≤ 10000) : ∀ (j m : Nat), m * 2 ^ j < 18446744073709551616 → j ≤ 10000 →
    Ev (fun k => sibylref03_Join.j4 k (sg : Int) q ((m * 2 ^ j : Nat) : Int)) r → Ev (fun k => sibylref03_Join.l0 k (man : Int) (q + (j : Int)) (sg : Int) q (m : Int)) r := by
  intro j
  induction j with
  | zero =>
    intro m hm _ h
    refine Ev.step (f := fun k => sibylref03_Join.j4 k (sg : Int) q ((m * 2 ^ 0 : Nat) : Int)) (fun k => ?_) h
    simp only [sibylref03_Join.l0]
    rw [if_neg (by omega), if_neg (by omega), Nat.pow_zero, Nat.mul_one]
  | succ j ih =>
    intro m hm hj h
    have e : m * 2 ^ (j + 1) = (m * 2) * 2 ^ j := by rw [Nat.pow_succ]; simp only [Nat.mul_assoc, Nat.mul_comm]
    have hp := Nat.two_pow_pos j
    have hm2 : m * 2 ≤ (m * 2) * 2 ^ j := Nat.le_mul_of_pos_right _ hp
    rw [e] at hm h
    refine Ev.step (f := fun k => sibylref03_Join.l0 k (man : Int) (q + (j : Int)) (sg : Int) q ((m * 2 : Nat) : Int)) (fun k => ?_) (ih (m * 2) hm (by omega) h)
    simp only [sibylref03_Join.l0]
    rw [if_pos (by omega), w64 (by omega) (by omega), wu64 (by omega) (by omega)]
    congr 1
    omega
end Go.Proofs.Ytjppanekddljbaa.Lb
/- What the reference's Join, round and Add answer: Ieee's own. -/
namespace Go.Proofs.Ytjppanekddljbaa.Lb
open Go.RowKit Go.Proofs.Ytjppanekddljbaa.Pr Go.Proofs.YtjppanekddljbaaW.PrintWords Go.Proofs.YtjppanekddljbaaW.PrintLast Go.Proofs.YtjppanekddljbaaW.PrintMore
open Go.Proofs.Ytjppanekddljbaa.Fl
theorem shrN {y s : Nat} (hs : s ≤ 64) : shr .u64 ((y : Nat) : Int) ((s : Nat) : Int) = ((y / 2 ^ s : Nat) : Int) := by
  have e : ((2 : Int) ^ s) = ((2 ^ s : Nat) : Int) := by rw [Int.natCast_pow]; rfl
  unfold shr
  rw [Int.toNat_natCast, Nat.min_eq_left (by simp [IntKind.bits]; omega), e]
  exact (Int.natCast_ediv y _).symm
theorem shlN {y s : Nat} (hs : s ≤ 64) (h : y * 2 ^ s < 18446744073709551616) : shl .u64 ((y : Nat) : Int) ((s : Nat) : Int) = ((y * 2 ^ s : Nat) : Int) := by
  have e : ((y : Nat) : Int) * 2 ^ s = ((y * 2 ^ s : Nat) : Int) := by rw [Int.natCast_mul, Int.natCast_pow]; rfl
  unfold shl
  rw [Int.toNat_natCast, Nat.min_eq_left (by simp [IntKind.bits]; omega), e, wuN h]
theorem shl_one {s : Nat} (hs : s ≤ 63) : shl .u64 1 ((s : Nat) : Int) = ((2 ^ s : Nat) : Int) := by
  have h : 2 ^ s ≤ 2 ^ 63 := Nat.pow_le_pow_right (by decide) hs
  have := shlN (y := 1) (s := s) (by omega) (by omega)
  rw [Nat.one_mul] at this
  exact this
/-- less than the last digit that is kept -/
theorem join_down {sg man : Nat} {q : Int} {s : Nat} {r : Int} (hm : man < 18446744073709551616) (hs1 : 1 ≤ s) (hs2 : s ≤ 64) (hq0 : -10000 ≤ q) (hq1 : q ≤ 10000)
    (h : Ev (fun k => sibylref03_Join.j4 k (sg : Int) q ((rhe man s : Nat) : Int)) r) : Ev (fun k => sibylref03_Join.l0 k (man : Int) (q - (s : Int)) (sg : Int) q (man : Int)) r := by
  refine Ev.step (f := fun k => sibylref03_Join.j4 k (sg : Int) q ((rhe man s : Nat) : Int)) (fun k => ?_) h
  simp only [sibylref03_Join.l0]
  rw [if_neg (by omega), if_pos (by omega)]
  have e1 : wrap64 (q - (q - (s : Int))) = ((s : Nat) : Int) := by rw [w64 (by omega) (by omega)]; omega
  have e2 : IntKind.u64.wrap (wrap64 (((s : Nat) : Int) - 1)) = ((s - 1 : Nat) : Int) := by rw [w64 (by omega) (by omega), wu64 (by omega) (by omega)]; omega
  have hpow : 2 * 2 ^ (s - 1) = 2 ^ s := by rw [Nat.mul_comm, ← Nat.pow_succ]; congr 1; omega
  rw [e1, e2, shl_one (by omega), if_neg (by omega), if_pos (by omega)]
  have hdm := Nat.div_add_mod man (2 ^ s)
  by_cases h64 : s < 64
  · have e3 : IntKind.u64.wrap ((s : Nat) : Int) = ((s : Nat) : Int) := wuN (by omega)
    have hle : man / 2 ^ s * 2 ^ s ≤ man := Nat.div_mul_le_self _ _
    have hq : man / 2 ^ s ≤ man / 2 := by
      have : 2 ^ 1 ≤ 2 ^ s := Nat.pow_le_pow_right (by decide) hs1
      exact Nat.div_le_div_left (by omega) (by decide)
    have e4 : IntKind.u64.wrap (((man : Nat) : Int) - ((man / 2 ^ s * 2 ^ s : Nat) : Int)) = ((man % 2 ^ s : Nat) : Int) := by
      rw [wu64 (by omega) (by omega)]
      have := Nat.mul_comm (man / 2 ^ s) (2 ^ s)
      omega
    rw [if_pos (by omega), e3, if_pos (by omega), shrN (by omega), shlN (by omega) (by omega), e4]
    have e5 : IntKind.u64.wrap (((man / 2 ^ s : Nat) : Int) + 1) = ((man / 2 ^ s + 1 : Nat) : Int) := by
      obtain ⟨Q, hQ⟩ : ∃ Q, man / 2 ^ s = Q := ⟨_, rfl⟩
      rw [hQ] at hq ⊢
      rw [wu64 (by omega) (by omega)]; rfl
    rw [e5, tmod2]
    unfold rhe
    clear e1 e2 e3 e4 e5 hle hq hdm
    obtain ⟨Q, hQ⟩ : ∃ Q, man / 2 ^ s = Q := ⟨_, rfl⟩
    obtain ⟨R, hR⟩ : ∃ R, man % 2 ^ s = R := ⟨_, rfl⟩
    rw [hQ, hR]
    clear hQ hR
    obtain ⟨P, hP⟩ : ∃ P, 2 ^ s = P := ⟨_, rfl⟩
    obtain ⟨H, hH⟩ : ∃ H, 2 ^ (s - 1) = H := ⟨_, rfl⟩
    rw [hP, hH] at hpow
    rw [hP, hH]
    clear hP hH
    by_cases c1 : P < 2 * R
    · rw [if_pos (by omega), decide_eq_true c1]
      rfl
    · rw [if_neg (by omega), decide_eq_false c1, Bool.false_or]
      by_cases c2 : P = 2 * R
      · rw [if_pos (by omega), decide_eq_true c2, Bool.true_and]
        by_cases c3 : Q % 2 = 1
        · rw [if_pos (by omega), decide_eq_true c3]; rfl
        · rw [if_neg (by omega), decide_eq_false c3]; rfl
      · rw [if_neg (by omega), decide_eq_false c2, Bool.false_and]; rfl
  · obtain rfl : s = 64 := by omega
    rw [if_neg (by omega)]
    have z1 : man / 2 ^ 64 = 0 := Nat.div_eq_of_lt (by omega)
    have z2 : man % 2 ^ 64 = man := Nat.mod_eq_of_lt (by omega)
    unfold rhe
    rw [z1, z2]
    by_cases c1 : 2 ^ 64 < 2 * man
    · rw [if_pos (by omega), decide_eq_true c1]; rfl
    · rw [if_neg (by omega), decide_eq_false c1, Bool.false_or]
      by_cases c2 : 2 ^ 64 = 2 * man
      · rw [if_pos (by omega), if_neg (by decide), decide_eq_true c2]; rfl
      · rw [if_neg (by omega), decide_eq_false c2]; rfl
theorem kept_le {man : Nat} (h0 : man ≠ 0) (exp : Int) : keptOf man (lastOf man exp - exp) ≤ 9007199254740992 := by
  have hlog := Nat.lt_log2_self (n := man)
  have hD : (man.log2 : Int) - 52 ≤ lastOf man exp - exp := by unfold lastOf; omega
  unfold keptOf
  rcases Int.le_total 0 (lastOf man exp - exp) with h | h
  · rw [show (-(lastOf man exp - exp)).toNat = 0 by omega, Nat.pow_zero, Nat.mul_one]
    have h1 := rhe_le man (lastOf man exp - exp).toNat
    have h2 : man / 2 ^ (lastOf man exp - exp).toNat < 2 ^ 53 := by
      rw [Nat.div_lt_iff_lt_mul (Nat.two_pow_pos _), ← Nat.pow_add]
      exact Nat.lt_of_lt_of_le hlog (Nat.pow_le_pow_right (by decide) (by omega))
    omega
  · rw [show (lastOf man exp - exp).toNat = 0 by omega, rhe_zero]
    have h2 : man * 2 ^ (-(lastOf man exp - exp)).toNat < 2 ^ (man.log2 + 1) * 2 ^ (-(lastOf man exp - exp)).toNat := Nat.mul_lt_mul_of_pos_right hlog (Nat.two_pow_pos _)
    rw [← Nat.pow_add] at h2
    have h3 : 2 ^ (man.log2 + 1 + (-(lastOf man exp - exp)).toNat) ≤ 2 ^ 53 := Nat.pow_le_pow_right (by decide) (by omega)
    omega
theorem kept_ge {man : Nat} (h0 : man ≠ 0) (exp : Int) (hl : -1074 < lastOf man exp) : 4503599627370496 ≤ keptOf man (lastOf man exp - exp) := by
  have hlog := Nat.log2_self_le h0
  have hD : lastOf man exp - exp = (man.log2 : Int) - 52 := by unfold lastOf at hl ⊢; omega
  rw [hD]
  unfold keptOf
  rcases Int.le_total 0 ((man.log2 : Int) - 52) with h | h
  · rw [show (-((man.log2 : Int) - 52)).toNat = 0 by omega, Nat.pow_zero, Nat.mul_one]
    refine Nat.le_trans ?_ (rhe_ge _ _)
    rw [Nat.le_div_iff_mul_le (Nat.two_pow_pos _)]
    have : 4503599627370496 * 2 ^ ((man.log2 : Int) - 52).toNat = 2 ^ man.log2 := by
      rw [show (4503599627370496 : Nat) = 2 ^ 52 from rfl, ← Nat.pow_add]; congr 1; omega
    omega
  · rw [show ((man.log2 : Int) - 52).toNat = 0 by omega, rhe_zero]
    have h2 : 2 ^ man.log2 * 2 ^ (-((man.log2 : Int) - 52)).toNat ≤ man * 2 ^ (-((man.log2 : Int) - 52)).toNat := Nat.mul_le_mul_right _ hlog
    rw [← Nat.pow_add, show man.log2 + (-((man.log2 : Int) - 52)).toNat = 52 by omega] at h2
    exact h2
def signedW (neg : Bool) (r : Nat) : Nat := if neg then 9223372036854775808 + r else r
theorem join_ev {neg : Bool} {man : Nat} {exp : Int} (h0 : man ≠ 0) (hm : man < 18446744073709551616) (he0 : -3000 ≤ exp) (he1 : exp ≤ 3000) :
    Ev (fun k => sibylref03_Join.f k neg (man : Int) exp) ((signedW neg (rn man exp) : Nat) : Int) := by
  obtain ⟨sg, hsg⟩ : ∃ sg : Nat, (if neg then 9223372036854775808 else 0) = sg := ⟨_, rfl⟩
  have hsg2 : sg ≤ 9223372036854775808 := by rw [← hsg]; split <;> omega
  have hsz : size man = man.log2 + 1 := by unfold size; rw [if_neg h0]
  have hs64 := size_le64 hm
  refine Ev.congr (f := fun k => sibylref03_Join.j0 k (man : Int) exp (sg : Int)) (fun k => ?_) ?_
  · unfold sibylref03_Join.f
    subst hsg
    cases neg <;> rfl
  · obtain ⟨q, hq⟩ : ∃ q, lastOf man exp = q := ⟨_, rfl⟩
    have hq0 : -1074 ≤ q := by rw [← hq]; unfold lastOf; omega
    have hq1 : q ≤ 4000 := by rw [← hq]; unfold lastOf; omega
    have hkl := kept_le h0 exp
    have hkg := fun h => kept_ge h0 exp h
    rw [hq] at hkl hkg
    have hrn : ((signedW neg (rn man exp) : Nat) : Int) = ((sg + min ((q + 1074).toNat * 4503599627370496 + keptOf man (q - exp)) 9218868437227405312 : Nat) : Int) := by
      unfold signedW rn
      rw [if_neg h0, hq, ← hsg]
      cases neg
      · simp only [Bool.false_eq_true, if_false]; rw [Nat.zero_add]
      · simp only [if_true]
    rw [hrn]
    have htail := join_tail hsg2 hq0 (by omega) hkl (fun hlt => by
      refine Decidable.byContradiction fun hne => ?_
      have := hkg (by omega)
      omega)
    refine Ev.step2 (f := fun k => (sibylref03_length.f k (man : Int)).bind fun t392 => (if (wrap64 ((wrap64 (exp + t392)) - 53)) < (-1074) then (sibylref03_Join.j2 k (man : Int) exp (sg : Int) (-1074)) else (sibylref03_Join.j2 k (man : Int) exp (sg : Int) (wrap64 ((wrap64 (exp + t392)) - 53))))) (fun k => ?_) ?_
    · simp only [sibylref03_Join.j0]
      rw [if_neg (by omega)]
      simp only [sibylref03_Join.j1]
      rw [if_neg (by simp; omega), if_neg (by omega)]
    · refine Ev.bind (length_ev hm) ?_
      refine Ev.congr (f := fun k => sibylref03_Join.j2 k (man : Int) exp (sg : Int) q) (fun k => ?_) ?_
      · rw [w64 (x := exp + ((size man : Nat) : Int)) (by omega) (by omega), w64 (by omega) (by omega)]
        by_cases hlow : exp + ((size man : Nat) : Int) - 53 < -1074
        · rw [if_pos hlow]; congr 1; rw [← hq]; unfold lastOf; omega
        · rw [if_neg hlow]; congr 1; rw [← hq]; unfold lastOf; omega
      · refine Ev.step (f := fun k => sibylref03_Join.l0 k (man : Int) exp (sg : Int) q (man : Int)) (fun k => by simp only [sibylref03_Join.j2]) ?_
        rcases Int.le_total q exp with h | h
        · obtain ⟨j, hj⟩ : ∃ j : Nat, exp = q + (j : Int) := ⟨(exp - q).toNat, by omega⟩
          have hk : keptOf man (q - exp) = man * 2 ^ j := by
            unfold keptOf
            rw [show (q - exp).toNat = 0 by omega, rhe_zero, show (-(q - exp)).toNat = j by omega]
          rw [hk] at htail hkl
          rw [hk]
          rw [hj]
          exact join_up hq0 (by omega) j man (by omega) (by omega) htail
        · rcases Int.lt_or_eq_of_le h with h | h
          · obtain ⟨s, hs⟩ : ∃ s : Nat, exp = q - (s : Int) := ⟨(q - exp).toNat, by omega⟩
            have hk : keptOf man (q - exp) = rhe man s := by
              unfold keptOf
              rw [show (-(q - exp)).toNat = 0 by omega, Nat.pow_zero, Nat.mul_one, show (q - exp).toNat = s by omega]
            rw [hk] at htail
            rw [hk]
            by_cases hbig : s ≤ 64
            · rw [hs]
              exact join_down hm (by omega) hbig (by omega) (by omega) htail
            · have hz : rhe man s = 0 := rhe_small (by
                have : 2 ^ 65 ≤ 2 ^ s := Nat.pow_le_pow_right (by decide) (by omega)
                omega)
              have hqq : q = -1074 := by
                refine Decidable.byContradiction fun hne => ?_
                have := hkg (by omega)
                rw [hk, hz] at this
                omega
              rw [hz]
              refine Ev.step (f := fun _ => some (sg : Int)) (fun k => ?_) ?_
              · simp only [sibylref03_Join.l0]
                rw [if_neg (by omega), if_pos (by omega), w64 (by omega) (by omega), if_pos (by omega)]
              · rw [hqq]
                exact Ev.now _
          · have hk : keptOf man (q - exp) = man * 2 ^ 0 := by
              unfold keptOf
              rw [show (q - exp).toNat = 0 by omega, rhe_zero, show (-(q - exp)).toNat = 0 by omega]
            rw [hk] at htail
            rw [hk]
            have := join_up (man := man) hq0 (by omega) 0 man (by omega) (by omega) htail
            rw [show q + ((0 : Nat) : Int) = exp by omega] at this
            exact this
end Go.Proofs.Ytjppanekddljbaa.Lb
/- What the reference's round answers. -/
namespace Go.Proofs.Ytjppanekddljbaa.Lb
open Go.RowKit Go.Proofs.Ytjppanekddljbaa.Pr Go.Proofs.YtjppanekddljbaaW.PrintWords Go.Proofs.YtjppanekddljbaaW.PrintLast Go.Proofs.YtjppanekddljbaaW.PrintMore
open Go.Proofs.Ytjppanekddljbaa.Fl
theorem norm_len_le {l : List Nat} (hL : Lim l) {n : Nat} (h : n ≤ val l) : (norm n).length ≤ l.length := norm_length_le (Nat.lt_of_le_of_lt h (val_lt hL))
theorem man_loop {q : List Nat} (hq : Lim q) (hlen : q.length ≤ 100000) (hv : val q < 9223372036854775808) {neg : Bool} {e : Int} {rest : Bool} {s : Int} {r : Int}
    (h : Ev (fun k => if rest = true then ((sibylref03_Join.f k neg ((2 * val q + 1 : Nat) : Int) (wrap64 ((wrap64 (e + s)) - 1))).bind fun t => (some t)) else ((sibylref03_Join.f k neg ((2 * val q : Nat) : Int) (wrap64 ((wrap64 (e + s)) - 1))).bind fun t => (some t))) r) :
    ∀ n, n ≤ q.length → Ev (fun k => sibylref21_round.l0 k neg e rest s (U q) ((val (q.drop n) : Nat) : Int) ((n : Int) - 1)) r := by
  intro n
  induction n with
  | zero =>
    intro _
    rw [List.drop_zero]
    refine Ev.step ?_ h
    intro k
    simp only [sibylref21_round.l0]
    rw [if_neg (by omega), wu64 (x := 2 * ((val q : Nat) : Int)) (by omega) (by omega), wu64 (by omega) (by omega)]
    rfl
  | succ n ih =>
    intro hn
    have h1 := lim_get hq n
    have h2 := val_drop q n
    have h3 : val (q.drop n) ≤ val q := by rw [val_drop_div hq]; exact Nat.div_le_self _ _
    refine Ev.step (f := fun k => sibylref21_round.l0 k neg e rest s (U q) ((val (q.drop n) : Nat) : Int) ((n : Int) - 1)) (fun k => ?_) (ih (by omega))
    simp only [sibylref21_round.l0, U_length]
    rw [show (((n + 1 : Nat) : Int) - 1) = (n : Int) by omega, if_pos (by omega), if_pos (by omega), if_pos (by omega), rd_U, wuN (n := q.getD n 0) (by omega), wu64 (x := ((val (q.drop (n + 1)) : Nat) : Int) * 4294967296) (by omega) (by omega), wu64 (by omega) (by omega), w64 (by omega) (by omega)]
    congr 1
    omega
theorem round_j0 {l : List Nat} (hL : Lim l) (hlen : l.length ≤ 100000) (h63 : 63 ≤ size (val l)) (hsz : size (val l) ≤ 900000) {neg rest : Bool} {e : Int} (he0 : -2500 ≤ e) (he1 : e + size (val l) ≤ 2500) :
    Ev (fun k => sibylref21_round.j0 k neg (U l) e rest ((size (val l) - 63 : Nat) : Int)) ((signedW neg (rn (2 * val l + rest.toNat) (e - 1)) : Nat) : Int) := by
  obtain ⟨n, hn⟩ : ∃ n, val l = n := ⟨_, rfl⟩
  obtain ⟨s, hs⟩ : ∃ s, size n - 63 = s := ⟨_, rfl⟩
  have hn0 : n ≠ 0 := fun h => by rw [hn, h] at h63; simp [size] at h63
  rw [hn, hs]
  rw [hn] at h63 hsz he1
  have hlt := size_lt n
  have hge := size_ge hn0
  have hq1 : n / 2 ^ s < 2 ^ 63 := by
    rw [Nat.div_lt_iff_lt_mul (Nat.two_pow_pos _), ← Nat.pow_add, show 63 + s = size n by omega]; exact hlt
  have hq2 : 2 ^ 62 ≤ n / 2 ^ s := by
    rw [Nat.le_div_iff_mul_le (Nat.two_pow_pos _), ← Nat.pow_add, show 62 + s = size n - 1 by omega]; exact hge
  have hqn : n / 2 ^ s ≤ n := Nat.div_le_self _ _
  have hmul : n / 2 ^ s * 2 ^ s ≤ n := Nat.div_mul_le_self _ _
  have hdm := Nat.div_add_mod n (2 ^ s)
  have hml : (norm (n / 2 ^ s)).length ≤ l.length := norm_len_le hL (by rw [hn]; exact hqn)
  have hml2 : (norm (n / 2 ^ s * 2 ^ s)).length ≤ l.length := norm_len_le hL (by rw [hn]; exact hmul)
  have hsh := shr_ev hL (by omega) (n := s) (by omega)
  rw [hn] at hsh
  have hsl := shl_ev (lim_norm (n / 2 ^ s)) (by omega) (n := s) (by omega)
  rw [val_norm] at hsl
  have hcm := cmp_ev (lim_norm (n / 2 ^ s * 2 ^ s)) hL (by omega) (by omega)
  rw [val_norm, hn] at hcm
  -- what is handed to Join
  have join_of : ∀ rr : Bool, ((rr = true) ↔ (rest = true ∨ n % 2 ^ s ≠ 0)) → Ev (fun k => sibylref21_round.j1 k neg e rr (s : Int) (U (norm (n / 2 ^ s)))) ((signedW neg (rn (2 * n + rest.toNat) (e - 1)) : Nat) : Int) := by
    intro rr hrr
    refine Ev.step (f := fun k => sibylref21_round.l0 k neg e rr (s : Int) (U (norm (n / 2 ^ s))) 0 (((norm (n / 2 ^ s)).length : Int) - 1)) (fun k => ?_) ?_
    · simp only [sibylref21_round.j1, U_length]
      rw [w64 (by omega) (by omega)]
    · have hst : sticky (2 * n + rest.toNat) (s + 1) = 2 * (n / 2 ^ s) + rr.toNat := by
        unfold sticky
        have hb : rest.toNat ≤ 1 := by cases rest <;> decide
        have a1 : (2 * n + rest.toNat) / 2 = n := by omega
        have a2 : (2 * n + rest.toNat) % 2 = rest.toNat := by omega
        rw [Nat.pow_succ, Nat.mul_comm (2 ^ s), ← Nat.div_div_eq_div_mul, a1, Nat.mod_mul, a1, a2]
        congr 1
        cases rr
        · have hno : ¬ (rest = true ∨ n % 2 ^ s ≠ 0) := fun h => by have := hrr.2 h; cases this
          have h1 : rest = false := by cases rest; rfl; exact absurd (.inl rfl) hno
          have h2 : n % 2 ^ s = 0 := Decidable.byContradiction fun h => hno (.inr h)
          rw [h1, h2]; rfl
        · rcases hrr.1 rfl with h1 | h1
          · rw [h1]; simp <;> omega
          · have : (rest.toNat + 2 * (n % 2 ^ s) != 0) = true := by simp; omega
            rw [this]
      have hbig : 2 ^ 54 ≤ (2 * n + rest.toNat) / 2 ^ (s + 1) := by
        have hb : rest.toNat ≤ 1 := by cases rest <;> decide
        rw [Nat.pow_succ 2 s, Nat.mul_comm (2 ^ s), ← Nat.div_div_eq_div_mul, show (2 * n + rest.toNat) / 2 = n by omega]
        omega
      have hrn := rn_sticky (e - 1) (Nat.le_trans (by decide) hbig)
      rw [hst] at hrn
      have hb2 : rr.toNat ≤ 1 := by cases rr <;> decide
      have hj := join_ev (neg := neg) (man := 2 * (n / 2 ^ s) + rr.toNat) (exp := e - 1 + ((s + 1 : Nat) : Int) - 1) (by omega) (by omega) (by omega) (by omega)
      rw [hrn] at hj
      have hv : val (norm (n / 2 ^ s)) = n / 2 ^ s := val_norm _
      have := man_loop (lim_norm (n / 2 ^ s)) (by omega) (by rw [hv]; omega) (neg := neg) (e := e) (rest := rr) (s := (s : Int)) (r := ((signedW neg (rn (2 * n + rest.toNat) (e - 1)) : Nat) : Int)) (by
        rw [hv]
        have hw : wrap64 ((wrap64 (e + (s : Int))) - 1) = e - 1 + ((s + 1 : Nat) : Int) - 1 := by rw [w64 (x := e + (s : Int)) (by omega) (by omega), w64 (by omega) (by omega)]; omega
        rw [hw]
        cases rr
        · refine Ev.congr (fun k => if_neg (by decide)) ?_
          exact Ev.bind hj (Ev.now _)
        · refine Ev.congr (fun k => if_pos rfl) ?_
          exact Ev.bind hj (Ev.now _)) (norm (n / 2 ^ s)).length (Nat.le_refl _)
      rw [List.drop_length] at this
      exact this
  refine Ev.step (f := fun k => (sibylref01_Shr.f k (U l) (s : Int)).bind fun t404 => ((sibylref01_Shl.f k t404 (s : Int)).bind fun t407 => ((sibylref01_Cmp.f k t407 (U l)).bind fun t410 => (if t410 = 0 then (sibylref21_round.j1 k neg e rest (s : Int) t404) else (sibylref21_round.j1 k neg e true (s : Int) t404))))) (fun k => by simp only [sibylref21_round.j0]) ?_
  refine Ev.bind hsh (Ev.bind hsl (Ev.bind hcm ?_))
  by_cases hz : n % 2 ^ s = 0
  · have he : n / 2 ^ s * 2 ^ s = n := by rw [Nat.mul_comm]; omega
    refine Ev.congr (fun k => if_pos (by rw [he, if_neg (by omega), if_neg (by omega)])) (join_of rest ?_)
    simp [hz]
  · have hlt2 : n / 2 ^ s * 2 ^ s < n := by rw [Nat.mul_comm]; omega
    refine Ev.congr (fun k => if_neg (by rw [if_pos hlt2]; decide)) (join_of true ?_)
    simp [hz]
/-- of 63 bits or more, with a rest -/
theorem round_ev {l : List Nat} (hL : Lim l) (hlen : l.length ≤ 20000) (h63 : 63 ≤ size (val l)) (hsz : size (val l) ≤ 900000) {neg rest : Bool} {e : Int} (he0 : -2500 ≤ e) (he1 : e + size (val l) ≤ 2500) :
    Ev (fun k => sibylref21_round.f k neg (U l) e rest) ((signedW neg (rn (2 * val l + rest.toNat) (e - 1)) : Nat) : Int) := by
  unfold sibylref21_round.f
  refine Ev.bind (bits_ev hL (by omega)) ?_
  have hw : wrap64 (((size (val l) : Nat) : Int) - 63) = ((size (val l) - 63 : Nat) : Int) := by rw [w64 (by omega) (by omega)]; omega
  rw [hw]
  refine Ev.congr (fun k => if_neg (by omega)) ?_
  exact round_j0 hL (by omega) h63 hsz he0 he1
/-- of any size, without a rest -/
theorem round_exact {l : List Nat} (hL : Lim l) (hlen : l.length ≤ 20000) (h0 : val l ≠ 0) (hsz : size (val l) ≤ 900000) {neg : Bool} {e : Int} (he0 : -2400 ≤ e) (he1 : e + size (val l) ≤ 2500) :
    Ev (fun k => sibylref21_round.f k neg (U l) e false) ((signedW neg (rn (val l) e) : Nat) : Int) := by
  by_cases h63 : 63 ≤ size (val l)
  · have h := round_ev (neg := neg) (rest := false) (e := e) hL hlen h63 hsz (by omega) he1
    have e1 : rn (2 * val l + false.toNat) (e - 1) = rn (val l) e := by
      have := rn_shift (val l) 1 (e - 1)
      rw [show e - 1 + ((1 : Nat) : Int) = e by omega] at this
      rw [← this]
      congr 1
      show 2 * val l + 0 = val l * 2 ^ 1
      omega
    rw [e1] at h
    exact h
  · obtain ⟨t, ht⟩ : ∃ t, 63 - size (val l) = t := ⟨_, rfl⟩
    have hs1 : 1 ≤ size (val l) := by unfold size; rw [if_neg h0]; omega
    unfold sibylref21_round.f
    refine Ev.bind (bits_ev hL (by omega)) ?_
    have hw : wrap64 (((size (val l) : Nat) : Int) - 63) = -(t : Int) := by rw [w64 (by omega) (by omega)]; omega
    rw [hw]
    have hw2 : wrap64 (-(-(t : Int))) = (t : Int) := by rw [w64 (by omega) (by omega)]; omega
    have hw3 : wrap64 (e + -(t : Int)) = e - (t : Int) := by rw [w64 (by omega) (by omega)]; omega
    rw [hw2, hw3]
    refine Ev.congr (fun k => if_pos (by omega)) ?_
    refine Ev.bind (shl_ev hL (by omega) (n := t) (by omega)) ?_
    have hv : val (norm (val l * 2 ^ t)) = val l * 2 ^ t := val_norm _
    have hszm : size (val l * 2 ^ t) = 63 := by rw [size_mul h0]; omega
    have hnl : (norm (val l * 2 ^ t)).length ≤ 2 := norm_length_le (by
      have := size_lt (val l * 2 ^ t)
      rw [hszm] at this
      exact Nat.lt_of_lt_of_le this (by decide))
    have h := round_j0 (neg := neg) (rest := false) (e := e - (t : Int)) (lim_norm (val l * 2 ^ t)) (by omega) (by rw [hv]; omega) (by rw [hv]; omega) (by omega) (by rw [hv]; omega)
    rw [hv, hszm] at h
    have e1 : rn (2 * (val l * 2 ^ t) + false.toNat) (e - (t : Int) - 1) = rn (val l) e := by
      have := rn_shift (val l) (t + 1) (e - (t : Int) - 1)
      rw [show e - (t : Int) - 1 + ((t + 1 : Nat) : Int) = e by omega] at this
      rw [← this]
      congr 1
      show 2 * (val l * 2 ^ t) + 0 = val l * 2 ^ (t + 1)
      rw [Nat.pow_succ, Nat.add_zero, Nat.mul_comm 2, Nat.mul_assoc]
    rw [e1] at h
    exact h
end Go.Proofs.Ytjppanekddljbaa.Lb
/- The reference's Add is Ieee's; so is its Total. -/
namespace Go.Proofs.Ytjppanekddljbaa.Lb
open Go.RowKit Go.Proofs.Ytjppanekddljbaa.Pr Go.Proofs.YtjppanekddljbaaW.PrintWords Go.Proofs.YtjppanekddljbaaW.PrintLast Go.Proofs.YtjppanekddljbaaW.PrintMore
open Go.Proofs.Ytjppanekddljbaa.Fl Ieee
def sgB (x : Nat) : Bool := decide (9223372036854775808 ≤ x)
def rung (x : Nat) : Nat := x % 9223372036854775808
theorem word_eq {x : Nat} (hx : x < 18446744073709551616) : x = signedW (sgB x) (rung x) := by
  unfold signedW sgB rung
  by_cases h : 9223372036854775808 ≤ x
  · rw [decide_eq_true h, if_pos rfl]; omega
  · rw [decide_eq_false h, if_neg (by decide)]; omega
theorem sgB_div {x : Nat} (hx : x < 18446744073709551616) : (x / 9223372036854775808 % 2 == 1) = sgB x := by
  unfold sgB
  by_cases h : 9223372036854775808 ≤ x
  · rw [decide_eq_true h, beq_iff_eq]; omega
  · rw [decide_eq_false h, beq_eq_false_iff_ne]; omega
theorem sgB_int (x : Nat) : decide ((x : Int) ≥ 9223372036854775808) = sgB x := by unfold sgB; exact decide_eq_decide.2 (by omega)
theorem valOf_zero {r : Nat} (h : Fl.valOf r = 0) : r = 0 := by
  rcases Nat.eq_zero_or_pos r with h0 | h0
  · exact h0
  · have := Fl.val_lt h0
    omega
/-- what Parts tells of a finite float: its value in units of the least -/
theorem parts_val {x : Nat} (_hx : x < 18446744073709551616) (hfin : rung x < 9218868437227405312) :
    ∃ (m : Nat) (e : Int), m < 9007199254740992 ∧ -1074 ≤ e ∧ e ≤ 1100 ∧ m * 2 ^ (e + 1074).toNat = Fl.valOf (rung x) ∧ Ev (fun k => sibylref03_Parts.f k (x : Int)) (sgB x, (m : Int), e, 0) := by
  by_cases h0 : rung x = 0
  · refine ⟨0, 0, by omega, by omega, by omega, by rw [h0, Nat.zero_mul]; decide, ?_⟩
    have := parts_zero (x := x) h0
    rw [sgB_int] at this
    exact this
  · obtain ⟨m, t, h1, h2, h3⟩ := parts_ev (x := x) hfin h0
    rw [sgB_int] at h3
    have hml := magOf_lt (rung x)
    have hel : expOf (rung x) < 2046 := by unfold expOf; omega
    have hm0 : m ≠ 0 := by omega
    have hp := Nat.two_pow_pos t
    have hmle : m ≤ m * 2 ^ t := Nat.le_mul_of_pos_right _ hp
    have hmag : m * 2 ^ t = magOf (rung x) := h1.symm
    have ht : t ≤ 53 := by
      have h4 : 2 ^ t ≤ m * 2 ^ t := Nat.le_mul_of_pos_left _ (by omega)
      have h5 : 2 ^ t < 2 ^ 54 := by omega
      have := (Nat.pow_lt_pow_iff_right (by decide : 1 < 2)).1 h5
      omega
    refine ⟨m, -1074 + (expOf (rung x) : Nat) + (t : Int), by omega, by omega, by omega, ?_, h3⟩
    rw [show (-1074 + ((expOf (rung x) : Nat) : Int) + (t : Int) + 1074).toNat = t + expOf (rung x) by omega, Nat.pow_add, ← Nat.mul_assoc, hmag]
    rfl
theorem read_word {x : Nat} (hx : x < 18446744073709551616) (hfin : rung x < 9218868437227405312) : double.read x = .number (sgB x) (magOf (rung x)) (-1074 + (expOf (rung x) : Nat)) := by
  rw [read_fin x hfin, sgB_div hx]
  rfl
theorem natural_ev {m : Nat} (hm : m < 18446744073709551616) : sibylref21_natural.f (m : Int) = some (U [m % 4294967296, m / 4294967296]) := by
  unfold sibylref21_natural.f
  rw [show Int.tmod (m : Int) 4294967296 % 4294967296 = ((m % 4294967296 : Nat) : Int) from tmodB m, tdivB, wuN (by omega), modB (by omega)]
  rfl
theorem natural_val (m : Nat) : val [m % 4294967296, m / 4294967296] = m := by simp only [val]; omega
theorem natural_lim {m : Nat} (hm : m < 18446744073709551616) : Lim [m % 4294967296, m / 4294967296] := lim_cons.2 ⟨Nat.mod_lt _ (by decide), lim_one (by omega)⟩
def sgn (p : Bool) (A : Nat) : Int := if p then -(A : Int) else (A : Int)
theorem signed_scale (p : Bool) (M : Nat) (i b : Int) (K e : Nat) (hi : i = -1074 + (e : Int)) (hb : b = -1074 + (K : Int)) (hle : b ≤ i) : signed p M (i - b).toNat * ((2 ^ K : Nat) : Int) = sgn p (M * 2 ^ e) := by
  have h : M * 2 ^ (i - b).toNat * 2 ^ K = M * 2 ^ e := by
    rw [Nat.mul_assoc, ← Nat.pow_add]; congr 2; omega
  unfold signed sgn
  rw [Nat.shiftLeft_eq]
  cases p
  · simp only [Bool.false_eq_true, if_false]
    rw [← Int.natCast_mul, h]
  · simp only [if_true]
    rw [Int.neg_mul, ← Int.natCast_mul, h]
theorem add_fin {x y : Nat} (hx : x < 18446744073709551616) (hy : y < 18446744073709551616) (fx : rung x < 9218868437227405312) (fy : rung y < 9218868437227405312) :
    double.add x y = some (signedW (if sgn (sgB x) (Fl.valOf (rung x)) + sgn (sgB y) (Fl.valOf (rung y)) = 0 then (sgB x && sgB y) else decide (sgn (sgB x) (Fl.valOf (rung x)) + sgn (sgB y) (Fl.valOf (rung y)) < 0))
      (rn (sgn (sgB x) (Fl.valOf (rung x)) + sgn (sgB y) (Fl.valOf (rung y))).natAbs (-1074))) := by
  unfold Format.add
  rw [read_word hx fx, read_word hy fy]
  obtain ⟨i, hi⟩ : ∃ i : Int, -1074 + (expOf (rung x) : Nat) = i := ⟨_, rfl⟩
  obtain ⟨j, hj⟩ : ∃ j : Int, -1074 + (expOf (rung y) : Nat) = j := ⟨_, rfl⟩
  rw [hi, hj]
  simp only [Datum.sum, Option.map_some]
  obtain ⟨b, hb⟩ : ∃ b, min i j = b := ⟨_, rfl⟩
  rw [hb]
  obtain ⟨K, hK⟩ : ∃ K : Nat, b = -1074 + (K : Int) := ⟨(b + 1074).toNat, by omega⟩
  have e1 := signed_scale (sgB x) (magOf (rung x)) i b K (expOf (rung x)) hi.symm hK (by omega)
  have e2 := signed_scale (sgB y) (magOf (rung y)) j b K (expOf (rung y)) hj.symm hK (by omega)
  have e3 : sgn (sgB x) (Fl.valOf (rung x)) = sgn (sgB x) (magOf (rung x) * 2 ^ expOf (rung x)) := rfl
  have e4 : sgn (sgB y) (Fl.valOf (rung y)) = sgn (sgB y) (magOf (rung y) * 2 ^ expOf (rung y)) := rfl
  rw [e3, e4, ← e1, ← e2, ← Int.add_mul]
  obtain ⟨T, hT⟩ : ∃ T, signed (sgB x) (magOf (rung x)) (i - b).toNat + signed (sgB y) (magOf (rung y)) (j - b).toNat = T := ⟨_, rfl⟩
  rw [hT]
  have hp : 0 < ((2 ^ K : Nat) : Int) := by have := Nat.two_pow_pos K; omega
  show some (double.nearest _ _ _) = _
  rw [nearest_eq]
  refine congrArg some ?_
  have c1 : (T * ((2 ^ K : Nat) : Int) = 0) ↔ T = 0 := by rw [Int.mul_eq_zero]; omega
  have c2 : (T * ((2 ^ K : Nat) : Int) < 0) ↔ T < 0 := by
    constructor
    · intro h
      refine Decidable.byContradiction fun hn => ?_
      have := Int.mul_nonneg (a := T) (b := ((2 ^ K : Nat) : Int)) (by omega) (by omega)
      omega
    · intro h; exact Int.mul_neg_of_neg_of_pos h hp
  have c3 : (T * ((2 ^ K : Nat) : Int)).natAbs = T.natAbs * 2 ^ K := by rw [Int.natAbs_mul, Int.natAbs_natCast]
  have c4 : rn (T.natAbs * 2 ^ K) (-1074) = rn T.natAbs b := by rw [rn_shift, hK]
  rw [c3, c4]
  unfold signedW
  by_cases hz : T = 0
  · rw [if_pos hz, if_pos (c1.2 hz)]
  · rw [if_neg hz, if_neg (fun h => hz (c1.1 h)), decide_eq_decide.2 c2]
def addC (x y : Nat) : Nat := (double.add x y).getD 9221120237041090561
theorem val_bound {m n c : Nat} (hm : m < 9007199254740992) (hn : 53 + n ≤ 32 * c) : size (m * 2 ^ n) ≤ 53 + n ∧ (norm (m * 2 ^ n)).length ≤ c := by
  have h1 : m * 2 ^ n < 2 ^ (53 + n) := by rw [Nat.pow_add]; exact Nat.mul_lt_mul_of_pos_right hm (Nat.two_pow_pos _)
  refine ⟨size_le_of_lt h1, norm_length_le ?_⟩
  rw [pow32]
  exact Nat.lt_of_lt_of_le h1 (Nat.pow_le_pow_right (by decide) hn)
theorem size_add {u v c : Nat} (hu : size u ≤ c) (hv : size v ≤ c) : size (u + v) ≤ c + 1 := by
  refine size_le_of_lt ?_
  have h1 : u < 2 ^ c := Nat.lt_of_lt_of_le (size_lt u) (Nat.pow_le_pow_right (by decide) hu)
  have h2 : v < 2 ^ c := Nat.lt_of_lt_of_le (size_lt v) (Nat.pow_le_pow_right (by decide) hv)
  rw [Nat.pow_succ]
  omega
theorem size_sub {u v c : Nat} (hu : size u ≤ c) : size (u - v) ≤ c :=
  size_le_of_lt (Nat.lt_of_le_of_lt (Nat.sub_le u v) (Nat.lt_of_lt_of_le (size_lt u) (Nat.pow_le_pow_right (by decide) hu)))
theorem norm_len_size {n c : Nat} (h : size n ≤ 32 * c) : (norm n).length ≤ c := norm_length_le (by
  rw [pow32]
  exact Nat.lt_of_lt_of_le (size_lt n) (Nat.pow_le_pow_right (by decide) h))
theorem sgn_abs (p : Bool) (C : Nat) : (sgn p C).natAbs = C := by unfold sgn; cases p <;> simp
theorem sgn_zero (p : Bool) {C : Nat} : sgn p C = 0 ↔ C = 0 := by unfold sgn; cases p <;> simp
theorem sgn_neg (p : Bool) {C : Nat} (h : 0 < C) : decide (sgn p C < 0) = p := by
  unfold sgn
  cases p
  · simp only [Bool.false_eq_true, if_false]; exact decide_eq_false (by omega)
  · simp only [if_true]; exact decide_eq_true (by omega)
/-- the last step: a difference, or a sum, rounded -/
theorem last_step {W K : Nat} {low : Int} (p : Bool) (hK : low = -1074 + (K : Int)) (hlow : low ≤ 1100) (h0 : W ≠ 0) (hsz : size W ≤ 3200) (hsl : (size W : Int) + low ≤ 1200) (q : Bool) :
    Ev (fun k => (sibylref21_round.f k p (U (norm W)) low false).bind fun t => some t) ((signedW (if sgn p (W * 2 ^ K) = 0 then q else decide (sgn p (W * 2 ^ K) < 0)) (rn (sgn p (W * 2 ^ K)).natAbs (-1074)) : Nat) : Int) := by
  have hpos : 0 < W * 2 ^ K := Nat.mul_pos (by omega) (Nat.two_pow_pos _)
  have hv : val (norm W) = W := val_norm W
  rw [if_neg (fun h => by have := (sgn_zero p).1 h; omega), sgn_neg p hpos, sgn_abs, rn_shift, ← hK]
  have hr := round_exact (neg := p) (e := low) (lim_norm W) (by have := norm_len_size (n := W) (c := 100) (by omega); omega) (by rw [hv]; exact h0) (by rw [hv]; omega) (by omega) (by rw [hv]; omega)
  rw [hv] at hr
  exact Ev.bind hr (Ev.now _)
/-- what is answered of a sum S -/
def ansOf (q : Bool) (S : Int) : Nat := signedW (if S = 0 then q else decide (S < 0)) (rn S.natAbs (-1074))
theorem last_step' {W K : Nat} {low : Int} (p : Bool) (hK : low = -1074 + (K : Int)) (hlow : low ≤ 1100) (h0 : W ≠ 0) (hsz : size W ≤ 3200) (hsl : (size W : Int) + low ≤ 1200) (q : Bool) :
    Ev (fun k => (sibylref21_round.f k p (U (norm W)) low false).bind fun t => some t) ((ansOf q (sgn p (W * 2 ^ K)) : Nat) : Int) := last_step p hK hlow h0 hsz hsl q
theorem same_step {u v K cu : Nat} {low : Int} {x : Nat} (p : Bool) (hK : low = -1074 + (K : Int)) (hlow : low ≤ 1100) (hu : size u ≤ cu) (hv : size v ≤ cu) (hc : cu ≤ 3000) (hcl : (cu : Int) + low ≤ 1199) (hx : u + v = 0 → x = signedW p 0) :
    Ev (fun k => (sibylref01_Plus.f k (U (norm u)) (U (norm v))).bind fun t450 => (if (t450.length : Int) = 0 then (some (x : Int)) else ((sibylref21_round.f k p t450 low false).bind fun t453 => (some t453)))) ((ansOf p (sgn p ((u + v) * 2 ^ K)) : Nat) : Int) := by
  have n1 := norm_len_size (n := u) (c := 100) (by omega)
  have n2 := norm_len_size (n := v) (c := 100) (by omega)
  have hpl := plus_ev (lim_norm u) (lim_norm v) (by omega) (by omega)
  rw [val_norm, val_norm] at hpl
  refine Ev.bind hpl ?_
  have hs1 := size_add hu hv
  by_cases h0 : u + v = 0
  · rw [h0, norm_zero, Nat.zero_mul]
    refine Ev.congr (f := fun _ => some (x : Int)) (fun k => if_pos rfl) ?_
    unfold ansOf
    rw [if_pos ((sgn_zero p).2 rfl), sgn_abs, show rn 0 (-1074) = 0 from if_pos rfl, hx h0]
    exact Ev.now _
  · have hne : (norm (u + v)).length ≠ 0 := fun h => by
      have := val_norm (u + v)
      rw [List.eq_nil_of_length_eq_zero h] at this
      exact h0 this.symm
    refine Ev.congr (fun k => if_neg (by rw [U_length]; omega)) ?_
    exact last_step' p hK hlow h0 (by omega) (by omega) p
theorem opp_step {u v K cu : Nat} {low : Int} (p : Bool) (hK : low = -1074 + (K : Int)) (hlow : low ≤ 1100) (hu : size u ≤ cu) (hv : size v ≤ cu) (hc : cu ≤ 3000) (hcl : (cu : Int) + low ≤ 1199) :
    Ev (fun k => (sibylref01_Cmp.f k (U (norm u)) (U (norm v))).bind fun t441 => (if t441 = 0 then (some 0) else (if t441 > 0 then ((sibylref01_Minus.f k (U (norm u)) (U (norm v))).bind fun t442 => ((sibylref21_round.f k p t442 low false).bind fun t445 => (some t445))) else ((sibylref01_Minus.f k (U (norm v)) (U (norm u))).bind fun t446 => ((sibylref21_round.f k (!p) t446 low false).bind fun t449 => (some t449)))))) ((ansOf false (sgn p (u * 2 ^ K) + sgn (!p) (v * 2 ^ K)) : Nat) : Int) := by
  have n1 := norm_len_size (n := u) (c := 100) (by omega)
  have n2 := norm_len_size (n := v) (c := 100) (by omega)
  have hcmp := cmp_ev (lim_norm u) (lim_norm v) (by omega) (by omega)
  rw [val_norm, val_norm] at hcmp
  refine Ev.bind hcmp ?_
  clear hcmp
  rcases Nat.lt_trichotomy u v with hlt | heq | hgt
  · have hS : sgn p (u * 2 ^ K) + sgn (!p) (v * 2 ^ K) = sgn (!p) ((v - u) * 2 ^ K) := by
      have : u * 2 ^ K ≤ v * 2 ^ K := Nat.mul_le_mul_right _ (Nat.le_of_lt hlt)
      rw [Nat.sub_mul]
      unfold sgn
      cases p
      · simp only [Bool.not_false, Bool.false_eq_true, if_false, if_true]; omega
      · simp only [Bool.not_true, Bool.false_eq_true, if_false, if_true]; omega
    rw [hS, show (if u < v then (-1 : Int) else if u > v then 1 else 0) = -1 from if_pos hlt]
    have hmi := minus_ev (lim_norm v) (lim_norm u) (by omega) (by omega) (by rw [val_norm, val_norm]; exact Nat.le_of_lt hlt)
    rw [val_norm, val_norm] at hmi
    refine Ev.congr (fun k => by rw [if_neg (by decide), if_neg (by decide)]) ?_
    refine Ev.bind hmi ?_
    have hs1 := size_sub (v := u) hv
    exact last_step' (!p) hK hlow (by omega) (by omega) (by omega) false
  · subst heq
    have hS : sgn p (u * 2 ^ K) + sgn (!p) (u * 2 ^ K) = 0 := by
      unfold sgn
      cases p
      · simp only [Bool.not_false, Bool.false_eq_true, if_false, if_true]; omega
      · simp only [Bool.not_true, Bool.false_eq_true, if_false, if_true]; omega
    rw [hS]
    refine Ev.congr (f := fun _ => some 0) (fun k => if_pos (by rw [if_neg (Nat.lt_irrefl _), if_neg (Nat.lt_irrefl _)])) ?_
    exact Ev.now _
  · have hS : sgn p (u * 2 ^ K) + sgn (!p) (v * 2 ^ K) = sgn p ((u - v) * 2 ^ K) := by
      have : v * 2 ^ K ≤ u * 2 ^ K := Nat.mul_le_mul_right _ (Nat.le_of_lt hgt)
      rw [Nat.sub_mul]
      unfold sgn
      cases p
      · simp only [Bool.not_false, Bool.false_eq_true, if_false, if_true]; omega
      · simp only [Bool.not_true, Bool.false_eq_true, if_false, if_true]; omega
    rw [hS, show (if u < v then (-1 : Int) else if u > v then 1 else 0) = 1 from by rw [if_neg (Nat.not_lt.2 (Nat.le_of_lt hgt)), if_pos hgt]]
    have hmi := minus_ev (lim_norm u) (lim_norm v) (by omega) (by omega) (by rw [val_norm, val_norm]; exact Nat.le_of_lt hgt)
    rw [val_norm, val_norm] at hmi
    refine Ev.congr (fun k => by rw [if_neg (by decide), if_pos (by decide)]) ?_
    refine Ev.bind hmi ?_
    have hs1 := size_sub (v := v) hu
    exact last_step' p hK hlow (by omega) (by omega) (by omega) false
theorem natural_ev' {m : Nat} (hm : m < 18446744073709551616) : Ev (fun _ => sibylref21_natural.f (m : Int)) (U [m % 4294967296, m / 4294967296]) := ⟨0, fun _ _ => natural_ev hm⟩
theorem add_j2 {x : Nat} {p q : Bool} {m n : Nat} {e f low : Int} {A B : Nat} (hm : m < 9007199254740992) (hn : n < 9007199254740992) (he0 : -1074 ≤ e) (he1 : e ≤ 1100) (hf0 : -1074 ≤ f) (hf1 : f ≤ 1100) (hlow : min e f = low)
    (hA : m * 2 ^ (e + 1074).toNat = A) (hB : n * 2 ^ (f + 1074).toNat = B) (hx : A = 0 → x = signedW p 0) :
    Ev (fun k => sibylref21_Add.j2 k (x : Int) p (m : Int) e q (n : Int) f low) ((ansOf (p && q) (sgn p A + sgn q B) : Nat) : Int) := by
  obtain ⟨a, ha⟩ : ∃ a : Nat, e - low = (a : Int) := ⟨(e - low).toNat, by omega⟩
  obtain ⟨b, hb⟩ : ∃ b : Nat, f - low = (b : Int) := ⟨(f - low).toNat, by omega⟩
  obtain ⟨K, hK⟩ : ∃ K : Nat, low = -1074 + (K : Int) := ⟨(low + 1074).toNat, by omega⟩
  have hbu := (val_bound (n := a) (c := 96) hm (by omega)).1
  have hbv := (val_bound (n := b) (c := 96) hn (by omega)).1
  have hshu := shl_ev (natural_lim (m := m) (by omega)) (by simp) (n := a) (by omega)
  have hshv := shl_ev (natural_lim (m := n) (by omega)) (by simp) (n := b) (by omega)
  rw [natural_val] at hshu hshv
  obtain ⟨u, hu⟩ : ∃ u, m * 2 ^ a = u := ⟨_, rfl⟩
  obtain ⟨v, hv⟩ : ∃ v, n * 2 ^ b = v := ⟨_, rfl⟩
  have huA : u * 2 ^ K = A := by
    rw [← hu, ← hA, Nat.mul_assoc, ← Nat.pow_add, show a + K = (e + 1074).toNat by omega]
  have hvB : v * 2 ^ K = B := by
    rw [← hv, ← hB, Nat.mul_assoc, ← Nat.pow_add, show b + K = (f + 1074).toNat by omega]
  rw [hu] at hbu hshu
  rw [hv] at hbv hshv
  have hmaxc : (max (53 + a) (53 + b) : Nat) ≤ 3000 := by omega
  have hmaxl : ((max (53 + a) (53 + b) : Nat) : Int) + low ≤ 1199 := by omega
  have hlow1 : low ≤ 1100 := by omega
  have w1 : wrap64 (e - low) = (a : Int) := by rw [w64 (by omega) (by omega), ha]
  have w2 : wrap64 (f - low) = (b : Int) := by rw [w64 (by omega) (by omega), hb]
  have hm2 : m < 18446744073709551616 := by omega
  have hn2 : n < 18446744073709551616 := by omega
  clear hA hB hm hn
  refine Ev.step (f := _) (fun k => by simp only [sibylref21_Add.j2]; rfl) ?_
  rw [w1, w2]
  refine Ev.bind (natural_ev' hm2) (Ev.bind hshu (Ev.bind (natural_ev' hn2) (Ev.bind hshv ?_)))
  clear hshu hshv
  rw [← huA, ← hvB]
  by_cases hpq : p = q
  · subst hpq
    refine Ev.congr (fun k => if_neg (by simp)) ?_
    have hS : sgn p (u * 2 ^ K) + sgn p (v * 2 ^ K) = sgn p ((u + v) * 2 ^ K) := by
      rw [Nat.add_mul]
      unfold sgn; cases p
      · simp only [Bool.false_eq_true, if_false]; omega
      · simp only [if_true]; omega
    rw [hS, Bool.and_self]
    exact same_step p hK hlow1 (Nat.le_trans hbu (Nat.le_max_left _ _)) (Nat.le_trans hbv (Nat.le_max_right _ _)) hmaxc hmaxl (fun h => hx (by rw [← huA, show u = 0 by omega, Nat.zero_mul]))
  · obtain rfl : q = !p := by cases p <;> cases q <;> simp at hpq ⊢
    refine Ev.congr (fun k => if_pos (by cases p <;> simp)) ?_
    rw [show (p && !p) = false by cases p <;> rfl]
    exact opp_step p hK hlow1 (Nat.le_trans hbu (Nat.le_max_left _ _)) (Nat.le_trans hbv (Nat.le_max_right _ _)) hmaxc hmaxl
theorem add_fin_ev {x y : Nat} (hx : x < 18446744073709551616) (hy : y < 18446744073709551616) (fx : rung x < 9218868437227405312) (fy : rung y < 9218868437227405312) :
    Ev (fun k => sibylref21_Add.j1 k (x : Int) (y : Int) false false false) ((addC x y : Nat) : Int) := by
  obtain ⟨m, e, hm, he0, he1, hmv, hme⟩ := parts_val hx fx
  obtain ⟨n, f, hn, hf0, hf1, hnv, hnf⟩ := parts_val hy fy
  have hadd : addC x y = ansOf (sgB x && sgB y) (sgn (sgB x) (Fl.valOf (rung x)) + sgn (sgB y) (Fl.valOf (rung y))) := by
    unfold addC ansOf
    rw [add_fin hx hy fx fy]
    rfl
  rw [hadd]
  have core := add_j2 (x := x) (p := sgB x) (q := sgB y) hm hn he0 he1 hf0 hf1 rfl hmv hnv (fun h => by
    have hr0 := valOf_zero h
    have := word_eq hx
    rw [hr0] at this
    exact this)
  refine Ev.step (f := _) (fun k => by simp only [sibylref21_Add.j1]; rfl) ?_
  refine Ev.congr (fun k => by rw [if_neg (by decide), if_neg (by decide), if_neg (by decide)]) ?_
  refine Ev.bind hme (Ev.bind hnf ?_)
  by_cases hfe : f < e
  · refine Ev.congr (fun k => if_pos hfe) ?_
    rw [show min e f = f by omega] at core
    exact core
  · refine Ev.congr (fun k => if_neg hfe) ?_
    rw [show min e f = e by omega] at core
    exact core
end Go.Proofs.Ytjppanekddljbaa.Lb
/- The float externs and odds.NaN, odds worth: what each call returns. -/
namespace Go.Proofs.Ytjppanekddljbaa.H
open Go.RowKit Go.Proofs.YtjppanekddljbaaW.PrintWords Go.Proofs.YtjppanekddljbaaW.PrintLast Go.Proofs.YtjppanekddljbaaW.PrintMore
theorem run_frombits (n : Int) (w : World) : (callFunc 28 #[.int .u64 n]).run Try.prog w = .ok (.value (.float .f64 n.toNat)) w := by
  rw [run_callFunc_extern (P := Try.prog) (f := 28) (fn := Try.f28) (e := Extern.MathFloatBits.float64frombits) (by kernel_rfl) (by kernel_rfl) (by kernel_rfl) (by kernel_rfl) (by kernel_rfl)]
  rfl
theorem run_bits (n : Nat) (w : World) : (callFunc 13 #[.float .f64 n]).run Try.prog w = .ok (.value (.int .u64 n)) w := by
  rw [run_callFunc_extern (P := Try.prog) (f := 13) (fn := Try.f13) (e := Extern.MathFloatBits.float64bits) (by kernel_rfl) (by kernel_rfl) (by kernel_rfl) (by kernel_rfl) (by kernel_rfl)]
  rfl
theorem nan_calls (w : World) :
    Calls Try.prog 25 #[] w fun e w' => e = .returned (.float .f64 9221120237041090561) ∧ Drawn0 w w' := by
  have h := run_frombits 9221120237041090561
  go_enter Try.func25, Try.ntmps25
  go_wp2
  go_ret
  exact ⟨rfl, Drawn0.refl _⟩
theorem worth_calls (x : Nat) (w : World) :
    Calls Try.prog 47 #[.float .f64 x] w fun e w' => e = .returned (.float .f64 (if (FloatKind.f64.format.order x 0 == some .gt) = true then x else 0)) ∧ Drawn0 w w' := by
  by_cases h : (FloatKind.f64.format.order x 0 == some .gt) = true
  · rw [if_pos h]
    go_enter Try.func47, Try.ntmps47
    go_wp2
    go_ret
    exact ⟨rfl, Drawn0.refl _⟩
  · rw [if_neg h]
    replace h := Bool.eq_false_iff.mpr h
    go_enter Try.func47, Try.ntmps47
    go_wp2
    go_ret
    exact ⟨rfl, Drawn0.refl _⟩
end Go.Proofs.Ytjppanekddljbaa.H
/- Reading a cut of a slice. -/
namespace Go.Proofs.Ytjppanekddljbaa.H
open Go.RowKit Go.Proofs.YtjppanekddljbaaW.PrintWords Go.Proofs.YtjppanekddljbaaW.PrintLast Go.Proofs.YtjppanekddljbaaW.PrintMore
/-- How many limbs are left if noughts at the end are cut off. -/
def cutn (l : List Int) : Nat → Nat
  | 0 => 0
  | n + 1 => if rd l n = 0 then cutn l n else n + 1
theorem cutn_le (l : List Int) : ∀ n, cutn l n ≤ n
  | 0 => Nat.le_refl _
  | n + 1 => by
    have := cutn_le l n
    unfold cutn
    split <;> omega
def cutL (l : List Int) : List Int := l.take (cutn l l.length)
theorem cutL_length (l : List Int) : (cutL l).length = cutn l l.length := by
  have := cutn_le l l.length
  simp [cutL]; omega
theorem cutL_le (l : List Int) : (cutL l).length ≤ l.length := by
  have := cutn_le l l.length
  rw [cutL_length]
  exact this
theorem C_cutL {w : World} {A : Option Addr} {l : List Int} (h : Kd.C (Kd.int .u32) w A l.length l) : Kd.C (Kd.int .u32) w A (cutL l).length (cutL l) := Kd.C_take h (cutn_le l l.length)
set_option maxHeartbeats 1000000 in
/-- cut, of a row that is read: the row's begin. -/
theorem cut_reads (A : Option Addr) (c : Nat) (l : List Int) (w : World) (hr : Kd.C (Kd.int .u32) w A l.length l) (hc : l.length ≤ c) :
    Calls Try.prog 92 #[.slice A l.length c] w fun e w' => e = .returned (.slice A (cutL l).length c) ∧ Drawn0 w w' := by
  have HR := Aside0.mk hr
  have hmax : l.length ≤ 9223372036854775807 := hr.2.1
  clear hr
  go_enter Try.func92, Try.ntmps92
  go_wp2
  go_loopg [3] l.length (fun kq v3 w' => ∃ n : Nat, v3 = .int .i64 n ∧ n = kq ∧ n ≤ l.length ∧ Aside0 (cutn l n = cutn l l.length) ∧ w' = w)
  case atStart => exact ⟨l.length, rfl, rfl, Nat.le_refl _, ⟨rfl⟩, rfl⟩
  case round =>
    obtain ⟨n, rfl, rfl, hn, HE, rfl⟩ := hrel
    cases n with
    | zero =>
      have HL : Aside0 ((cutL l).length = 0) := ⟨(cutL_length l).trans HE.out.symm⟩
      clear HE
      go_wp2
      go_ret
      exact ⟨by rw [HL.out]; rfl, Drawn0.refl _⟩
    | succ m =>
      obtain ⟨ad, e, hx⟩ := Kd.at_int HR.out (m : Int) (by omega) (by omega)
      cases e
      simp only [Int.toNat_natCast] at hx
      by_cases h0 : rd l m = 0
      · have h0b : (rd l m == 0) = true := beq_iff_eq.mpr h0
        have HE2 : Aside0 (cutn l m = cutn l l.length) := ⟨by rw [← HE.out, cutn, if_pos h0]⟩
        clear HE h0
        go_wp2
        go_roundg m
        case measure => omega
        case rel => exact ⟨m, by go_num, rfl, by omega, HE2, rfl⟩
      · have h0b : (rd l m == 0) = false := beq_eq_false_iff_ne.mpr h0
        have HL : Aside0 ((cutL l).length = m + 1) := ⟨by rw [cutL_length l, ← HE.out, cutn, if_neg h0]⟩
        clear HE h0
        go_wp2
        go_ret
        exact ⟨by rw [HL.out]; rfl, Drawn0.refl _⟩
end Go.Proofs.Ytjppanekddljbaa.H
/- nats.Cmp and nats.Mul: each function's Lean function and that the Go code computes it. -/
namespace Go.Proofs.Ytjppanekddljbaa.Pr
open Go.RowKit Go.Proofs.Ytjppanekddljbaa.H Go.Proofs.YtjppanekddljbaaW.PrintWords Go.Proofs.YtjppanekddljbaaW.PrintLast Go.Proofs.YtjppanekddljbaaW.PrintMore
attribute [local go_sem] max2_int min2_int max_two min_two max_three min_three max_four min_four
def nats_Cmp.l0 : Nat → List Int → List Int → Int → Option (Int)
 | 0, _, _, _ => none
 | k + 1, x0, x1, x5 => if x5 ≥ 0 then (if 0 ≤ x5 then (if x5 < (x0.length : Int) then (if x5 < (x1.length : Int) then (if (rd x0 x5) = (rd x1 x5) then (nats_Cmp.l0 k x0 x1 (wrap64 (x5 - 1))) else (if (rd x0 x5) < (rd x1 x5) then (some (-1)) else (some 1))) else (none)) else (none)) else (none)) else (some 0)
def nats_Cmp.g (k : Nat) (l0 : List Int) (l1 : List Int) : Option (Int) := if (l0.length : Int) = (l1.length : Int) then (nats_Cmp.l0 k l0 l1 (wrap64 ((l0.length : Int) - 1))) else (if (l0.length : Int) < (l1.length : Int) then (some (-1)) else (some 1))
def nats_Cmp.f (k : Nat) (l0 : List Int) (l1 : List Int) := nats_Cmp.g k (cutL l0) (cutL l1)
set_option maxHeartbeats 8000000 in
set_option maxRecDepth 100000 in
theorem nats_Cmp.calls (k : Nat) (A0 : Option Addr) (c0 : Nat) (l0 : List Int) (A1 : Option Addr) (c1 : Nat) (l1 : List Int) (r : Int) (w : World) (hr0 : Kd.C (Kd.int .u32) w A0 l0.length l0) (hc0 : l0.length ≤ c0) (hr1 : Kd.C (Kd.int .u32) w A1 l1.length l1) (hc1 : l1.length ≤ c1) (h : nats_Cmp.f k l0 l1 = some r) :
  Calls Try.prog 97 #[.slice A0 l0.length c0, .slice A1 l1.length c1] w fun e w' => e = .returned (.int .i64 r) ∧ Drawn0 w w' := by
 have HQ0 := Aside0.mk hr0
 have HQC0 := Aside0.mk hc0
 have HQ1 := Aside0.mk hr1
 have HQC1 := Aside0.mk hc1
 replace hr0 := C_cutL hr0
 replace hr1 := C_cutL hr1
 replace hc0 := Nat.le_trans (cutL_le l0) hc0
 replace hc1 := Nat.le_trans (cutL_le l1) hc1
 replace h : nats_Cmp.g k (cutL l0) (cutL l1) = some r := h
 obtain ⟨L0, hL0⟩ : ∃ L : List Int, L = l0 := ⟨_, rfl⟩
 obtain ⟨L1, hL1⟩ : ∃ L : List Int, L = l1 := ⟨_, rfl⟩
 subst hL0 hL1
 obtain ⟨q0, hq0⟩ : ∃ q : List Int, cutL L0 = q := ⟨_, rfl⟩
 obtain ⟨q1, hq1⟩ : ∃ q : List Int, cutL L1 = q := ⟨_, rfl⟩
 rw [hq0] at hr0 hc0 h
 rw [hq1] at hr1 hc1 h
 have N0 := Aside0.mk hq0
 have N1 := Aside0.mk hq1
 clear hq0 hq1
 have HR0 := Aside0.mk hr0
 have HC0 := Aside0.mk hc0
 clear hr0 hc0
 have HR1 := Aside0.mk hr1
 have HC1 := Aside0.mk hc1
 clear hr1 hc1
 have H : (if (q0.length : Int) = (q1.length : Int) then (nats_Cmp.l0 k q0 q1 (wrap64 ((q0.length : Int) - 1))) else (if (q0.length : Int) < (q1.length : Int) then (some (-1)) else (some 1))) = some r := h
 clear h
 by_cases c3 : (q0.length : Int) = (q1.length : Int)
 ·rw [if_pos c3] at H
  have c3b0 : ((q0.length : Int) == (q1.length : Int)) = true := beq_iff_eq.mpr c3
  have c3b1 : ((q0.length : Int) != (q1.length : Int)) = false := bne_eq_false_iff_eq.mpr c3
  have c3b2 : (q0.length == q1.length) = true := by first | simpa using c3 | (simp at c3 ⊢; omega)
  clear c3
  have H' := Aside0.mk H
  clear H
  go_enter Try.func97, Try.ntmps97
  go_wp2_with (first | ((with_reducible refine gate_callee (f := 92) rfl ?_); refine goesM (some 7) rfl rfl Try.func92 (by kernel_rfl) rfl #[.slice A0 L0.length c0] rfl (by rfl) ?_; (with_reducible refine (cut_reads A0 c0 L0 _ ?hq0 HQC0.out).mono ?_); (case hq0 => exact HQ0.out); rintro e w' ⟨rfl, ⟨nd, rfl⟩⟩; refine ⟨_, rfl, ?_⟩; rw [N0.out]) | ((with_reducible refine gate_callee (f := 92) rfl ?_); refine goesM (some 9) rfl rfl Try.func92 (by kernel_rfl) rfl #[.slice A1 L1.length c1] rfl (by rfl) ?_; (with_reducible refine (cut_reads A1 c1 L1 _ ?hq1 HQC1.out).mono ?_); (case hq1 => exact HQ1.out); rintro e w' ⟨rfl, ⟨nd, rfl⟩⟩; refine ⟨_, rfl, ?_⟩; rw [N1.out]))
  repeat (go_quiet (fail); try go_wp2)
  go_loopg [5] k (fun kq v5 w' => ∃ (x5_1 : Int), v5 = .int .i64 x5_1 ∧ Aside0 (nats_Cmp.l0 kq q0 q1 x5_1 = some r) ∧ Aside0 (kq ≤ k) ∧ Drawn0 w w')
  case atStart => exact ⟨(wrap64 ((q0.length : Int) - 1)), (by first | rfl | (simp; done) | (simp [*]; done)), H', ⟨Nat.le_refl _⟩, by repeat (first | exact Drawn0.refl _ | apply Drawn0.step)⟩
  case round =>
   clear H'
   try clear c1
   try clear p2
   try clear c3
   try clear c3b0
   try clear c3b1
   try clear c3b2
   obtain ⟨x5_1, rfl, HA, HK1, ⟨m1, rfl⟩⟩ := hrel
   cases gk with
   | zero => exact absurd HA.out (by simp [nats_Cmp.l0])
   | succ k1 =>
    have H := HA.out
    clear HA
    simp only [nats_Cmp.l0] at H
    by_cases c4 : x5_1 ≥ 0
    ·rw [if_pos c4] at H
     have c4b0 : decide (0 ≤ x5_1) = true := decide_eq_true c4
     clear c4
     by_cases c5 : 0 ≤ x5_1
     ·rw [if_pos c5] at H
      have c5b0 : decide (0 ≤ x5_1) = true := decide_eq_true c5
      clear c5
      by_cases c6 : x5_1 < (q0.length : Int)
      ·rw [if_pos c6] at H
       have c6b0 : decide (x5_1 < (q0.length : Int)) = true := decide_eq_true c6
       clear c6
       by_cases c7 : x5_1 < (q1.length : Int)
       ·rw [if_pos c7] at H
        have c7b0 : decide (x5_1 < (q1.length : Int)) = true := decide_eq_true c7
        clear c7
        by_cases c8 : (rd q0 x5_1) = (rd q1 x5_1)
        ·rw [if_pos c8] at H
         have c8b0 : ((rd q0 x5_1) == (rd q1 x5_1)) = true := beq_iff_eq.mpr c8
         have c8b1 : ((rd q0 x5_1) != (rd q1 x5_1)) = false := bne_eq_false_iff_eq.mpr c8
         clear c8
         have H' := Aside0.mk H
         clear H
         have p108 : 0 ≤ (x5_1 : Int) := of_decide_eq_true (by first | (with_reducible assumption) | assumption)
         have q108 : x5_1 < (q0.length : Int) := of_decide_eq_true (by first | (with_reducible assumption) | assumption)
         obtain ⟨ad108, e108, hx108_0⟩ := Kd.at_int HR0.out x5_1 p108 q108
         cases e108
         replace p108 := eq_true p108
         replace q108 := eq_true q108
         have p109 : 0 ≤ (x5_1 : Int) := of_decide_eq_true (by first | (with_reducible assumption) | assumption)
         have q109 : x5_1 < (q1.length : Int) := of_decide_eq_true (by first | (with_reducible assumption) | assumption)
         obtain ⟨ad109, e109, hx109_0⟩ := Kd.at_int HR1.out x5_1 p109 q109
         cases e109
         replace p109 := eq_true p109
         replace q109 := eq_true q109
         go_wp2
         repeat (go_quiet (fail); try go_wp2)
         go_roundg k1
         case measure => have := HK1.out; omega
         case rel => exact ⟨(wrap64 (x5_1 - 1)), (by first | rfl | (simp; done) | (simp [*]; done)), H', ⟨by have := HK1.out; omega⟩, by repeat (first | exact Drawn0.refl _ | apply Drawn0.step)⟩
        ·rw [if_neg c8] at H
         have c8b0 : ((rd q0 x5_1) == (rd q1 x5_1)) = false := beq_eq_false_iff_ne.mpr c8
         have c8b1 : ((rd q0 x5_1) != (rd q1 x5_1)) = true := bne_iff_ne.mpr c8
         by_cases c9 : (rd q0 x5_1) < (rd q1 x5_1)
         ·rw [if_pos c9] at H
          have c9b0 : decide ((rd q0 x5_1) < (rd q1 x5_1)) = true := decide_eq_true c9
          clear c9
          obtain rfl := Option.some.inj H
          have p108 : 0 ≤ (x5_1 : Int) := of_decide_eq_true (by first | (with_reducible assumption) | assumption)
          have q108 : x5_1 < (q0.length : Int) := of_decide_eq_true (by first | (with_reducible assumption) | assumption)
          obtain ⟨ad108, e108, hx108_0⟩ := Kd.at_int HR0.out x5_1 p108 q108
          cases e108
          replace p108 := eq_true p108
          replace q108 := eq_true q108
          have p109 : 0 ≤ (x5_1 : Int) := of_decide_eq_true (by first | (with_reducible assumption) | assumption)
          have q109 : x5_1 < (q1.length : Int) := of_decide_eq_true (by first | (with_reducible assumption) | assumption)
          obtain ⟨ad109, e109, hx109_0⟩ := Kd.at_int HR1.out x5_1 p109 q109
          cases e109
          replace p109 := eq_true p109
          replace q109 := eq_true q109
          have p110 : 0 ≤ (x5_1 : Int) := of_decide_eq_true (by first | (with_reducible assumption) | assumption)
          have q110 : x5_1 < (q0.length : Int) := of_decide_eq_true (by first | (with_reducible assumption) | assumption)
          obtain ⟨ad110, e110, hx110_0⟩ := Kd.at_int HR0.out x5_1 p110 q110
          obtain rfl : ad108 = ad110 := (by injection e110)
          replace p110 := eq_true p110
          replace q110 := eq_true q110
          have p111 : 0 ≤ (x5_1 : Int) := of_decide_eq_true (by first | (with_reducible assumption) | assumption)
          have q111 : x5_1 < (q1.length : Int) := of_decide_eq_true (by first | (with_reducible assumption) | assumption)
          obtain ⟨ad111, e111, hx111_0⟩ := Kd.at_int HR1.out x5_1 p111 q111
          obtain rfl : ad109 = ad111 := (by injection e111)
          replace p111 := eq_true p111
          replace q111 := eq_true q111
          go_wp2
          repeat (go_quiet (fail); try go_wp2)
          go_ret
          exact ⟨by first | rfl | (simp; done) | (simp [*]; done), by repeat (first | exact Drawn0.refl _ | apply Drawn0.step)⟩
         ·rw [if_neg c9] at H
          have c9b0 : decide ((rd q0 x5_1) < (rd q1 x5_1)) = false := decide_eq_false c9
          clear c9
          obtain rfl := Option.some.inj H
          have p108 : 0 ≤ (x5_1 : Int) := of_decide_eq_true (by first | (with_reducible assumption) | assumption)
          have q108 : x5_1 < (q0.length : Int) := of_decide_eq_true (by first | (with_reducible assumption) | assumption)
          obtain ⟨ad108, e108, hx108_0⟩ := Kd.at_int HR0.out x5_1 p108 q108
          cases e108
          replace p108 := eq_true p108
          replace q108 := eq_true q108
          have p109 : 0 ≤ (x5_1 : Int) := of_decide_eq_true (by first | (with_reducible assumption) | assumption)
          have q109 : x5_1 < (q1.length : Int) := of_decide_eq_true (by first | (with_reducible assumption) | assumption)
          obtain ⟨ad109, e109, hx109_0⟩ := Kd.at_int HR1.out x5_1 p109 q109
          cases e109
          replace p109 := eq_true p109
          replace q109 := eq_true q109
          have p110 : 0 ≤ (x5_1 : Int) := of_decide_eq_true (by first | (with_reducible assumption) | assumption)
          have q110 : x5_1 < (q0.length : Int) := of_decide_eq_true (by first | (with_reducible assumption) | assumption)
          obtain ⟨ad110, e110, hx110_0⟩ := Kd.at_int HR0.out x5_1 p110 q110
          obtain rfl : ad108 = ad110 := (by injection e110)
          replace p110 := eq_true p110
          replace q110 := eq_true q110
          have p111 : 0 ≤ (x5_1 : Int) := of_decide_eq_true (by first | (with_reducible assumption) | assumption)
          have q111 : x5_1 < (q1.length : Int) := of_decide_eq_true (by first | (with_reducible assumption) | assumption)
          obtain ⟨ad111, e111, hx111_0⟩ := Kd.at_int HR1.out x5_1 p111 q111
          obtain rfl : ad109 = ad111 := (by injection e111)
          replace p111 := eq_true p111
          replace q111 := eq_true q111
          go_wp2
          repeat (go_quiet (fail); try go_wp2)
          go_ret
          exact ⟨by first | rfl | (simp; done) | (simp [*]; done), by repeat (first | exact Drawn0.refl _ | apply Drawn0.step)⟩
       ·rw [if_neg c7] at H
        exact absurd H (by simp)
      ·rw [if_neg c6] at H
       exact absurd H (by simp)
     ·rw [if_neg c5] at H
      exact absurd H (by simp)
    ·rw [if_neg c4] at H
     have c4b0 : decide (0 ≤ x5_1) = false := decide_eq_false c4
     clear c4
     obtain rfl := Option.some.inj H
     go_wp2
     repeat (go_quiet (fail); try go_wp2)
     go_ret
     exact ⟨by first | rfl | (simp; done) | (simp [*]; done), by repeat (first | exact Drawn0.refl _ | apply Drawn0.step)⟩
 ·rw [if_neg c3] at H
  have c3b0 : ((q0.length : Int) == (q1.length : Int)) = false := beq_eq_false_iff_ne.mpr c3
  have c3b1 : ((q0.length : Int) != (q1.length : Int)) = true := bne_iff_ne.mpr c3
  have c3b2 : (q0.length == q1.length) = false := by first | simpa using c3 | (simp at c3 ⊢; omega)
  by_cases c10 : (q0.length : Int) < (q1.length : Int)
  ·rw [if_pos c10] at H
   have c10b0 : decide ((q0.length : Int) < (q1.length : Int)) = true := decide_eq_true c10
   have c10b1 : decide (q0.length < q1.length) = true := decide_eq_true (Int.ofNat_lt.mp c10)
   clear c10
   obtain rfl := Option.some.inj H
   go_enter Try.func97, Try.ntmps97
   go_wp2_with (first | ((with_reducible refine gate_callee (f := 92) rfl ?_); refine goesM (some 7) rfl rfl Try.func92 (by kernel_rfl) rfl #[.slice A0 L0.length c0] rfl (by rfl) ?_; (with_reducible refine (cut_reads A0 c0 L0 _ ?hq0 HQC0.out).mono ?_); (case hq0 => exact HQ0.out); rintro e w' ⟨rfl, ⟨nd, rfl⟩⟩; refine ⟨_, rfl, ?_⟩; rw [N0.out]) | ((with_reducible refine gate_callee (f := 92) rfl ?_); refine goesM (some 9) rfl rfl Try.func92 (by kernel_rfl) rfl #[.slice A1 L1.length c1] rfl (by rfl) ?_; (with_reducible refine (cut_reads A1 c1 L1 _ ?hq1 HQC1.out).mono ?_); (case hq1 => exact HQ1.out); rintro e w' ⟨rfl, ⟨nd, rfl⟩⟩; refine ⟨_, rfl, ?_⟩; rw [N1.out]))
   repeat (go_quiet (fail); try go_wp2)
   go_ret
   exact ⟨by first | rfl | (simp; done) | (simp [*]; done), by repeat (first | exact Drawn0.refl _ | apply Drawn0.step)⟩
  ·rw [if_neg c10] at H
   have c10b0 : decide ((q0.length : Int) < (q1.length : Int)) = false := decide_eq_false c10
   have c10b1 : decide (q0.length < q1.length) = false := decide_eq_false (fun h => c10 (Int.ofNat_lt.mpr h))
   clear c10
   obtain rfl := Option.some.inj H
   go_enter Try.func97, Try.ntmps97
   go_wp2_with (first | ((with_reducible refine gate_callee (f := 92) rfl ?_); refine goesM (some 7) rfl rfl Try.func92 (by kernel_rfl) rfl #[.slice A0 L0.length c0] rfl (by rfl) ?_; (with_reducible refine (cut_reads A0 c0 L0 _ ?hq0 HQC0.out).mono ?_); (case hq0 => exact HQ0.out); rintro e w' ⟨rfl, ⟨nd, rfl⟩⟩; refine ⟨_, rfl, ?_⟩; rw [N0.out]) | ((with_reducible refine gate_callee (f := 92) rfl ?_); refine goesM (some 9) rfl rfl Try.func92 (by kernel_rfl) rfl #[.slice A1 L1.length c1] rfl (by rfl) ?_; (with_reducible refine (cut_reads A1 c1 L1 _ ?hq1 HQC1.out).mono ?_); (case hq1 => exact HQ1.out); rintro e w' ⟨rfl, ⟨nd, rfl⟩⟩; refine ⟨_, rfl, ?_⟩; rw [N1.out]))
   repeat (go_quiet (fail); try go_wp2)
   go_ret
   exact ⟨by first | rfl | (simp; done) | (simp [*]; done), by repeat (first | exact Drawn0.refl _ | apply Drawn0.step)⟩
mutual
def nats_Mul.l0 : Nat → List Int → List Int → List Int → Int → Int → Option (List Int)
 | 0, _, _, _, _, _ => none
 | k + 1, x1, x5, x22, x23, x24 => if x24 < x23 then (if 0 ≤ x24 then (if x24 < (x22.length : Int) then (nats_Mul.l1 k x1 x5 x24 (rd x22 x24) 0 x22 x23 x24 x1 (x1.length : Int) 0) else (none)) else (none)) else ((nats_cut.f k x5).bind fun t290 => (some t290))
def nats_Mul.l1 : Nat → List Int → List Int → Int → Int → Int → List Int → Int → Int → List Int → Int → Int → Option (List Int)
 | 0, _, _, _, _, _, _, _, _, _, _, _ => none
 | k + 1, x1, x5, x6, x7, x8, x22, x23, x24, x29, x30, x31 => if x31 < x30 then (if 0 ≤ x31 then (if x31 < (x29.length : Int) then (if 0 ≤ (wrap64 (x6 + x31)) then (if (wrap64 (x6 + x31)) < (x5.length : Int) then (nats_Mul.l1 k x1 (x5.set ((wrap64 (x6 + x31)) : Int).toNat ((IntKind.u64.wrap ((IntKind.u64.wrap ((IntKind.u64.wrap ((IntKind.u64.wrap (x7)) * (IntKind.u64.wrap (rd x29 x31)))) + (IntKind.u64.wrap (rd x5 (wrap64 (x6 + x31)))))) + x8)) % 4294967296)) x6 x7 ((IntKind.u64.wrap ((IntKind.u64.wrap ((IntKind.u64.wrap ((IntKind.u64.wrap (x7)) * (IntKind.u64.wrap (rd x29 x31)))) + (IntKind.u64.wrap (rd x5 (wrap64 (x6 + x31)))))) + x8)) / 4294967296) x22 x23 x24 x29 x30 (wrap64 (x31 + 1))) else (none)) else (none)) else (none)) else (none)) else (if 0 ≤ (wrap64 (x6 + (x1.length : Int))) then (if (wrap64 (x6 + (x1.length : Int))) < (x5.length : Int) then (nats_Mul.l0 k x1 (x5.set ((wrap64 (x6 + (x1.length : Int))) : Int).toNat ((x8) % 4294967296)) x22 x23 (wrap64 (x24 + 1))) else (none)) else (none))
end
def nats_Mul.g (k : Nat) (l0 : List Int) (l1 : List Int) : Option (List Int) := if 0 ≤ (wrap64 ((l0.length : Int) + (l1.length : Int))) then (if (wrap64 ((l0.length : Int) + (l1.length : Int)) : Int).toNat ≤ 70368744177664 then (nats_Mul.l0 k l1 (List.replicate (wrap64 ((l0.length : Int) + (l1.length : Int)) : Int).toNat 0) l0 (l0.length : Int) 0) else (none)) else (none)
def nats_Mul.f (k : Nat) (l0 : List Int) (l1 : List Int) := nats_Mul.g k (cutL l0) (cutL l1)
set_option maxHeartbeats 8000000 in
set_option maxRecDepth 100000 in
theorem nats_Mul.calls (k : Nat) (A0 : Option Addr) (c0 : Nat) (l0 : List Int) (A1 : Option Addr) (c1 : Nat) (l1 : List Int) (r : List Int) (w : World) (hr0 : Kd.C (Kd.int .u32) w A0 l0.length l0) (hc0 : l0.length ≤ c0) (hr1 : Kd.C (Kd.int .u32) w A1 l1.length l1) (hc1 : l1.length ≤ c1) (h : nats_Mul.f k l0 l1 = some r) :
  Calls Try.prog 67 #[.slice A0 l0.length c0, .slice A1 l1.length c1] w fun e w' => ∃ v0_ : Value, e = .returned (v0_) ∧ Kd.R (Kd.int .u32) 99 w' w.heap.size (fun _ => True) v0_ r ∧ Below w.heap.size w w' := by
 have HQ0 := Aside0.mk hr0
 have HQC0 := Aside0.mk hc0
 have HQ1 := Aside0.mk hr1
 have HQC1 := Aside0.mk hc1
 replace hr0 := C_cutL hr0
 replace hr1 := C_cutL hr1
 replace hc0 := Nat.le_trans (cutL_le l0) hc0
 replace hc1 := Nat.le_trans (cutL_le l1) hc1
 replace h : nats_Mul.g k (cutL l0) (cutL l1) = some r := h
 obtain ⟨L0, hL0⟩ : ∃ L : List Int, L = l0 := ⟨_, rfl⟩
 obtain ⟨L1, hL1⟩ : ∃ L : List Int, L = l1 := ⟨_, rfl⟩
 subst hL0 hL1
 obtain ⟨q0, hq0⟩ : ∃ q : List Int, cutL L0 = q := ⟨_, rfl⟩
 obtain ⟨q1, hq1⟩ : ∃ q : List Int, cutL L1 = q := ⟨_, rfl⟩
 rw [hq0] at hr0 hc0 h
 rw [hq1] at hr1 hc1 h
 have N0 := Aside0.mk hq0
 have N1 := Aside0.mk hq1
 clear hq0 hq1
 have HR0 := Aside0.mk hr0
 have HC0 := Aside0.mk hc0
 clear hr0 hc0
 have HR1 := Aside0.mk hr1
 have HC1 := Aside0.mk hc1
 clear hr1 hc1
 have HB := Aside0.mk (Below.refl w.heap.size w)
 have H : (if 0 ≤ (wrap64 ((q0.length : Int) + (q1.length : Int))) then (if (wrap64 ((q0.length : Int) + (q1.length : Int)) : Int).toNat ≤ 70368744177664 then (nats_Mul.l0 k q1 (List.replicate (wrap64 ((q0.length : Int) + (q1.length : Int)) : Int).toNat 0) q0 (q0.length : Int) 0) else (none)) else (none)) = some r := h
 clear h
 obtain ⟨ji3, hji3⟩ : ∃ j_ : Int, (wrap64 ((q0.length : Int) + (q1.length : Int))) = j_ := ⟨_, rfl⟩
 replace H : (if 0 ≤ (ji3) then (if (ji3 : Int).toNat ≤ 70368744177664 then (nats_Mul.l0 k q1 (List.replicate (ji3 : Int).toNat 0) q0 (q0.length : Int) 0) else (none)) else (none)) = some r := by first | (rw [hji3] at H; exact H) | (simp only [hji3] at H ⊢; exact H)
 have hji3w : (IntKind.i64.wrap ((q0.length : Int) + (q1.length : Int))) = ji3 := (i64_w _).trans hji3
 by_cases c4 : 0 ≤ (ji3)
 ·rw [if_pos c4] at H
  have c4b0 := eq_true c4
  have c4b1 : decide (0 ≤ (ji3)) = true := decide_eq_true c4
  clear c4
  by_cases c5 : (ji3 : Int).toNat ≤ 70368744177664
  ·rw [if_pos c5] at H
   have c5b0 := eq_true c5
   have c5b1 : decide ((ji3 : Int).toNat ≤ 70368744177664) = true := decide_eq_true c5
   clear c5
   obtain ⟨y287, hy287⟩ : ∃ y_ : List Int, y_ = (List.replicate (ji3 : Int).toNat 0) := ⟨_, rfl⟩
   replace H : (nats_Mul.l0 k q1 y287 q0 (q0.length : Int) 0) = some r := by rw [hy287]; exact H
   have Ny287 := Aside0.mk hy287
   clear hy287
   have H' := Aside0.mk H
   clear H
   go_enter Try.func67, Try.ntmps67
   go_wp2_with (first | ((with_reducible refine gate_callee (f := 92) rfl ?_); refine goesM (some 13) rfl rfl Try.func92 (by kernel_rfl) rfl #[.slice A0 L0.length c0] rfl (by rfl) ?_; (with_reducible refine (cut_reads A0 c0 L0 _ ?hq0 HQC0.out).mono ?_); (case hq0 => exact HQ0.out); rintro e w' ⟨rfl, ⟨nd, rfl⟩⟩; refine ⟨_, rfl, ?_⟩; rw [N0.out]) | ((with_reducible refine gate_callee (f := 92) rfl ?_); refine goesM (some 15) rfl rfl Try.func92 (by kernel_rfl) rfl #[.slice A1 L1.length c1] rfl (by rfl) ?_; (with_reducible refine (cut_reads A1 c1 L1 _ ?hq1 HQC1.out).mono ?_); (case hq1 => exact HQ1.out); rintro e w' ⟨rfl, ⟨nd, rfl⟩⟩; refine ⟨_, rfl, ?_⟩; rw [N1.out]) | ((with_reducible refine gate_dst (N := 21) rfl ?_); refine Kd.R_make (Kd.int .u32) _ 99 rfl (N := 21) rfl 34 _ _ rfl ji3 rfl rfl Try.underlying34 (.int .u32 0) 4 info99 rfl (by decide) (by omega) 0 (ok := fun _ => True) (okp := fun _ => True) rfl (fun _ hk => hk) trivial (of_decide_eq_true (by first | (with_reducible assumption) | assumption)) (Nat.le_trans (Nat.mul_le_mul_right _ (of_decide_eq_true (by first | (with_reducible assumption) | assumption) : ji3.toNat ≤ 70368744177664)) (by omega)) (Below.refl _ _) (Nat.le_refl _) ?_; intro v288 w6 ho7 hb hg_ hnew_; clear hg_ hnew_; (first | rw [← Ny287.out] at ho7 | (simp only [Int.reduceToNat] at ho7; rw [← Ny287.out] at ho7)); have n_ := mk2 (Kd.R_lower ho7 (below_size (bl HB))) (below_step (bl HB) hb); clear HB; obtain ⟨HO289, HB⟩ := n_; clear hb ho7))
   go_loopg [24] k (fun kq v24 w' => ∃ (x5_1 : List Int) (x24_1 : Int), v24 = .int .i64 x24_1 ∧ Aside0 (nats_Mul.l0 kq q1 x5_1 q0 (q0.length : Int) x24_1 = some r) ∧ Aside0 (kq ≤ k) ∧ Aside0 (Kd.R (Kd.int .u32) 99 w' w.heap.size (fun _ => True) v288 x5_1) ∧ Aside0 (Below w.heap.size w w'))
   case atStart => exact ⟨(y287), (0), (by first | rfl | (simp; done) | (simp [*]; done)), H', ⟨Nat.le_refl _⟩, ⟨ra HO289.out⟩, ⟨bl HB⟩⟩
   case round =>
    clear H'
    try clear c1
    try clear p2
    try clear c4
    try clear c4b0
    try clear c4b1
    try clear c5
    try clear c5b0
    try clear c5b1
    try clear c6
    try clear p6
    obtain ⟨x5_1, x24_1, rfl, HA, HK1, HO_5, HB⟩ := hrel
    cases gk with
    | zero => exact absurd HA.out (by simp [nats_Mul.l0])
    | succ k1 =>
     have H := HA.out
     clear HA
     simp only [nats_Mul.l0] at H
     by_cases c8 : x24_1 < (q0.length : Int)
     ·rw [if_pos c8] at H
      have c8b0 : decide (x24_1 < (q0.length : Int)) = true := decide_eq_true c8
      clear c8
      by_cases c9 : 0 ≤ x24_1
      ·rw [if_pos c9] at H
       have c9b0 : decide (0 ≤ x24_1) = true := decide_eq_true c9
       clear c9
       by_cases c10 : x24_1 < (q0.length : Int)
       ·rw [if_pos c10] at H
        have c10b0 : decide (x24_1 < (q0.length : Int)) = true := decide_eq_true c10
        clear c10
        have H' := Aside0.mk H
        clear H
        have p293 : 0 ≤ (x24_1 : Int) := of_decide_eq_true (by first | (with_reducible assumption) | assumption)
        have q293 : x24_1 < (q0.length : Int) := of_decide_eq_true (by first | (with_reducible assumption) | assumption)
        obtain ⟨ad293, e293, hx293_0⟩ := Kd.at_int HR0.out x24_1 p293 q293
        cases e293
        replace hx293_0 := (HB.out.cell (World.block_lt_of_cell? w _ hx293_0)).trans hx293_0
        replace p293 := eq_true p293
        replace q293 := eq_true q293
        go_wp2
        go_loopg [8, 31] k1 (fun kq v8 v31 w' => ∃ (x5_2 : List Int) (x8_2 : Int) (x31_2 : Int), v8 = .int .u64 x8_2 ∧ v31 = .int .i64 x31_2 ∧ Aside0 (nats_Mul.l1 kq q1 x5_2 x24_1 (rd q0 x24_1) x8_2 q0 (q0.length : Int) x24_1 q1 (q1.length : Int) x31_2 = some r) ∧ Aside0 (kq ≤ k1) ∧ Aside0 (Kd.R (Kd.int .u32) 99 w' w.heap.size (fun _ => True) v288 x5_2) ∧ Aside0 (Below w.heap.size w w'))
        case atStart => exact ⟨(x5_1), (0), (0), (by first | rfl | (simp; done) | (simp [*]; done)), (by first | rfl | (simp; done) | (simp [*]; done)), H', ⟨Nat.le_refl _⟩, ⟨ra HO_5.out⟩, ⟨bl HB⟩⟩
        case round =>
         clear H'
         try clear c1
         try clear p2
         try clear q2
         try clear hx2
         try clear c4
         try clear c4b0
         try clear c4b1
         try clear c5
         try clear c5b0
         try clear c5b1
         try clear c6
         try clear p6
         try clear c8
         try clear c8b0
         try clear c9
         try clear c9b0
         try clear c10
         try clear c10b0
         try clear hx293_0
         try clear p2
         try clear p293
         try clear p6
         try clear q293
         obtain ⟨x5_2, x8_2, x31_2, rfl, rfl, HA, HK2, HO_5, HB⟩ := hrel
         cases gk with
         | zero => exact absurd HA.out (by simp [nats_Mul.l1])
         | succ k2 =>
          have H := HA.out
          clear HA
          simp only [nats_Mul.l1] at H
          by_cases c11 : x31_2 < (q1.length : Int)
          ·rw [if_pos c11] at H
           have c11b0 : decide (x31_2 < (q1.length : Int)) = true := decide_eq_true c11
           clear c11
           by_cases c12 : 0 ≤ x31_2
           ·rw [if_pos c12] at H
            have c12b0 : decide (0 ≤ x31_2) = true := decide_eq_true c12
            clear c12
            by_cases c13 : x31_2 < (q1.length : Int)
            ·rw [if_pos c13] at H
             have c13b0 : decide (x31_2 < (q1.length : Int)) = true := decide_eq_true c13
             clear c13
             obtain ⟨ji14, hji14⟩ : ∃ j_ : Int, (wrap64 (x24_1 + x31_2)) = j_ := ⟨_, rfl⟩
             replace H : (if 0 ≤ (ji14) then (if (ji14) < (x5_2.length : Int) then (nats_Mul.l1 k2 q1 (x5_2.set ((ji14) : Int).toNat ((IntKind.u64.wrap ((IntKind.u64.wrap ((IntKind.u64.wrap ((IntKind.u64.wrap ((rd q0 x24_1))) * (IntKind.u64.wrap (rd q1 x31_2)))) + (IntKind.u64.wrap (rd x5_2 (ji14))))) + x8_2)) % 4294967296)) x24_1 (rd q0 x24_1) ((IntKind.u64.wrap ((IntKind.u64.wrap ((IntKind.u64.wrap ((IntKind.u64.wrap ((rd q0 x24_1))) * (IntKind.u64.wrap (rd q1 x31_2)))) + (IntKind.u64.wrap (rd x5_2 (ji14))))) + x8_2)) / 4294967296) q0 (q0.length : Int) x24_1 q1 (q1.length : Int) (wrap64 (x31_2 + 1))) else (none)) else (none)) = some r := by first | (rw [hji14] at H; exact H) | (simp only [hji14] at H ⊢; exact H)
             have hji14w : (IntKind.i64.wrap (x24_1 + x31_2)) = ji14 := (i64_w _).trans hji14
             by_cases c15 : 0 ≤ (ji14)
             ·rw [if_pos c15] at H
              have c15b0 : decide (0 ≤ (ji14)) = true := decide_eq_true c15
              clear c15
              by_cases c16 : (ji14) < (x5_2.length : Int)
              ·rw [if_pos c16] at H
               have c16b0 : decide ((ji14) < (x5_2.length : Int)) = true := decide_eq_true c16
               clear c16
               obtain ⟨y296, hy296⟩ : ∃ y_ : List Int, y_ = (x5_2.set ((ji14) : Int).toNat ((IntKind.u64.wrap ((IntKind.u64.wrap ((IntKind.u64.wrap ((IntKind.u64.wrap ((rd q0 x24_1))) * (IntKind.u64.wrap (rd q1 x31_2)))) + (IntKind.u64.wrap (rd x5_2 (ji14))))) + x8_2)) % 4294967296)) := ⟨_, rfl⟩
               replace H : (nats_Mul.l1 k2 q1 y296 x24_1 (rd q0 x24_1) ((IntKind.u64.wrap ((IntKind.u64.wrap ((IntKind.u64.wrap ((IntKind.u64.wrap ((rd q0 x24_1))) * (IntKind.u64.wrap (rd q1 x31_2)))) + (IntKind.u64.wrap (rd x5_2 (ji14))))) + x8_2)) / 4294967296) q0 (q0.length : Int) x24_1 q1 (q1.length : Int) (wrap64 (x31_2 + 1))) = some r := by rw [hy296]; exact H
               have Ny296 := Aside0.mk hy296
               clear hy296
               have H' := Aside0.mk H
               clear H
               have p294 : 0 ≤ (x31_2 : Int) := of_decide_eq_true (by first | (with_reducible assumption) | assumption)
               have q294 : x31_2 < (q1.length : Int) := of_decide_eq_true (by first | (with_reducible assumption) | assumption)
               obtain ⟨ad294, e294, hx294_0⟩ := Kd.at_int HR1.out x31_2 p294 q294
               cases e294
               replace hx294_0 := (HB.out.cell (World.block_lt_of_cell? w _ hx294_0)).trans hx294_0
               replace p294 := eq_true p294
               replace q294 := eq_true q294
               obtain ⟨Ao18, co18, eo18⟩ := Kd.R_slice HO_5.out
               subst eo18
               have p295 : 0 ≤ ((ji14) : Int) := of_decide_eq_true (by first | (with_reducible assumption) | assumption)
               have q295 : (ji14) < (x5_2.length : Int) := of_decide_eq_true (by first | (with_reducible assumption) | assumption)
               obtain ⟨ad295, e295, hx295_0⟩ := Kd.at_int (Kd.R_reads' HO_5.out).2.2 (ji14) p295 q295
               cases e295
               replace p295 := eq_true p295
               replace q295 := eq_true q295
               have p17 : 0 ≤ ((ji14) : Int) := of_decide_eq_true (by first | (with_reducible assumption) | assumption)
               have q17 : ((ji14) : Int) < ((x5_2.length : Int) : Int) := of_decide_eq_true (by first | (with_reducible assumption) | assumption)
               obtain ⟨go17, co17, eo17, gb17, gl17, cl17, HG17⟩ := Kd.R_form HO_5.out (by omega)
               (first | cases eo17 | (injection eo17 with ea_ en_ ec_; (first | subst ea_ | (injection ea_ with ea_; subst ea_)); subst ec_; clear en_))
               have GB17 := Aside0.mk gb17
               have GG17 := Aside0.mk HG17
               clear gb17 gl17 HG17
               (first | simp only [add_plain] at hx295_0 | skip)
               obtain ⟨hx17_0, hf17_0⟩ := Kd.R_celln 0 HO_5.out ((ji14) : Int) p17 q17
               replace p17 := eq_true p17
               replace q17 := eq_true q17
               have HP19 := Kd.R_putg HO_5.out ((ji14) : Int) ((IntKind.u64.wrap ((IntKind.u64.wrap ((IntKind.u64.wrap ((IntKind.u64.wrap ((rd q0 x24_1))) * (IntKind.u64.wrap (rd q1 x31_2)))) + (IntKind.u64.wrap (rd x5_2 (ji14))))) + x8_2)) % 4294967296)
               go_wp2_with (first | ((with_reducible refine gate_store (t := 99) (p := 59) rfl ?_); refine store_event (t := 99) (p := 59) (v := ?vo_w20) (w1 := (wr.setCell ⟨go17, ((ji14) : Int).toNat, none⟩ (.int .u32 ((IntKind.u64.wrap ((IntKind.u64.wrap ((IntKind.u64.wrap ((IntKind.u64.wrap ((rd q0 x24_1))) * (IntKind.u64.wrap (rd q1 x31_2)))) + (IntKind.u64.wrap (rd x5_2 (ji14))))) + x8_2)) % 4294967296)))) ?hg ?ho ?hn ?hr ?_; (case ho => rfl); (case hg => rfl); (case hn => rfl); (case hr => first | (go_simp; done) | (go_simp; rfl)); intro w20 hw; have hg : wr.grownBy w20 (some go17) := (by rw [hw]; exact HP19.2); have hp_ : Kd.R (Kd.int .u32) 99 w20 w.heap.size (fun _ => True) (.slice (some ⟨go17, 0, none⟩) x5_2.length co18) y296 := (by rw [hw, Ny296.out]; exact HP19.1); clear HP19; have n_ := mk2 (hp_) ((by rw [hw]; exact below_set (HB.out) GB17.out : Below w.heap.size w w20)); clear HO_5 HB; obtain ⟨HO_5, HB⟩ := n_; clear hg hw hp_))
               go_roundg k2
               case measure => have := HK1.out; have := HK2.out; omega
               case rel => exact ⟨(y296), ((IntKind.u64.wrap ((IntKind.u64.wrap ((IntKind.u64.wrap ((IntKind.u64.wrap ((rd q0 x24_1))) * (IntKind.u64.wrap (rd q1 x31_2)))) + (IntKind.u64.wrap (rd x5_2 (ji14))))) + x8_2)) / 4294967296), (wrap64 (x31_2 + 1)), (by first | rfl | (simp; done) | (simp only [← hji14] <;> (first | rfl | simp)) | (simp [*]; done)), (by first | rfl | (simp; done) | (simp [*]; done)), H', ⟨by have := HK1.out; have := HK2.out; omega⟩, ⟨ra HO_5.out⟩, ⟨bl HB⟩⟩
              ·rw [if_neg c16] at H
               exact absurd H (by simp)
             ·rw [if_neg c15] at H
              exact absurd H (by simp)
            ·rw [if_neg c13] at H
             exact absurd H (by simp)
           ·rw [if_neg c12] at H
            exact absurd H (by simp)
          ·rw [if_neg c11] at H
           have c11b0 : decide (x31_2 < (q1.length : Int)) = false := decide_eq_false c11
           clear c11
           obtain ⟨ji21, hji21⟩ : ∃ j_ : Int, (wrap64 (x24_1 + (q1.length : Int))) = j_ := ⟨_, rfl⟩
           replace H : (if 0 ≤ (ji21) then (if (ji21) < (x5_2.length : Int) then (nats_Mul.l0 k2 q1 (x5_2.set ((ji21) : Int).toNat ((x8_2) % 4294967296)) q0 (q0.length : Int) (wrap64 (x24_1 + 1))) else (none)) else (none)) = some r := by first | (rw [hji21] at H; exact H) | (simp only [hji21] at H ⊢; exact H)
           have hji21w : (IntKind.i64.wrap (x24_1 + (q1.length : Int))) = ji21 := (i64_w _).trans hji21
           by_cases c22 : 0 ≤ (ji21)
           ·rw [if_pos c22] at H
            have c22b0 : decide (0 ≤ (ji21)) = true := decide_eq_true c22
            clear c22
            by_cases c23 : (ji21) < (x5_2.length : Int)
            ·rw [if_pos c23] at H
             have c23b0 : decide ((ji21) < (x5_2.length : Int)) = true := decide_eq_true c23
             clear c23
             obtain ⟨y297, hy297⟩ : ∃ y_ : List Int, y_ = (x5_2.set ((ji21) : Int).toNat ((x8_2) % 4294967296)) := ⟨_, rfl⟩
             replace H : (nats_Mul.l0 k2 q1 y297 q0 (q0.length : Int) (wrap64 (x24_1 + 1))) = some r := by rw [hy297]; exact H
             have Ny297 := Aside0.mk hy297
             clear hy297
             have H' := Aside0.mk H
             clear H
             have p24 : 0 ≤ ((ji21) : Int) := of_decide_eq_true (by first | (with_reducible assumption) | assumption)
             have q24 : ((ji21) : Int) < ((x5_2.length : Int) : Int) := of_decide_eq_true (by first | (with_reducible assumption) | assumption)
             obtain ⟨go24, co24, eo24, gb24, gl24, cl24, HG24⟩ := Kd.R_form HO_5.out (by omega)
             (first | cases eo24 | (injection eo24 with ea_ en_ ec_; (first | subst ea_ | (injection ea_ with ea_; subst ea_)); subst ec_; clear en_))
             have GB24 := Aside0.mk gb24
             have GG24 := Aside0.mk HG24
             clear gb24 gl24 HG24
             obtain ⟨hx24_0, hf24_0⟩ := Kd.R_celln 0 HO_5.out ((ji21) : Int) p24 q24
             replace p24 := eq_true p24
             replace q24 := eq_true q24
             have HP25 := Kd.R_putg HO_5.out ((ji21) : Int) ((x8_2) % 4294967296)
             go_wp2_with (first | ((with_reducible refine gate_store (t := 99) (p := 68) rfl ?_); refine store_event (t := 99) (p := 68) (v := ?vo_w26) (w1 := (wr.setCell ⟨go24, ((ji21) : Int).toNat, none⟩ (.int .u32 ((x8_2) % 4294967296)))) ?hg ?ho ?hn ?hr ?_; (case ho => rfl); (case hg => rfl); (case hn => rfl); (case hr => first | (go_simp; done) | (go_simp; rfl)); intro w26 hw; have hg : wr.grownBy w26 (some go24) := (by rw [hw]; exact HP25.2); have hp_ : Kd.R (Kd.int .u32) 99 w26 w.heap.size (fun _ => True) (.slice (some ⟨go24, 0, none⟩) x5_2.length co24) y297 := (by rw [hw, Ny297.out]; exact HP25.1); clear HP25; have n_ := mk2 (hp_) ((by rw [hw]; exact below_set (HB.out) GB24.out : Below w.heap.size w w26)); clear HO_5 HB; obtain ⟨HO_5, HB⟩ := n_; clear hg hw hp_))
             go_roundg k2
             case measure => have := HK1.out; have := HK2.out; omega
             case rel => exact ⟨(y297), (wrap64 (x24_1 + 1)), (by first | rfl | (simp; done) | (simp [*]; done)), H', ⟨by have := HK1.out; have := HK2.out; omega⟩, ⟨ra HO_5.out⟩, ⟨bl HB⟩⟩
            ·rw [if_neg c23] at H
             exact absurd H (by simp)
           ·rw [if_neg c22] at H
            exact absurd H (by simp)
       ·rw [if_neg c10] at H
        exact absurd H (by simp)
      ·rw [if_neg c9] at H
       exact absurd H (by simp)
     ·rw [if_neg c8] at H
      have c8b0 : decide (x24_1 < (q0.length : Int)) = false := decide_eq_false c8
      clear c8
      obtain ⟨t290, A27, H⟩ := bindA H
      obtain rfl := Option.some.inj H
      obtain ⟨Ao28, co28, eo28⟩ := Kd.R_slice HO_5.out
      subst eo28
      go_wp2_with (first | ((with_reducible refine gate_callee (f := 92) rfl ?_); refine goesM (some 71) rfl rfl Try.func92 (by kernel_rfl) rfl #[.slice Ao28 x5_1.length co28] rfl (by rfl) ?_; (with_reducible refine (nats_cut.calls k1 (fun k_ => some k_ = (.slice Ao28 x5_1.length co28 : Value).ownBlock) (.slice Ao28 x5_1.length co28) x5_1 t290 w _ ?side1 ?side2 A27.out).mono ?_); (case side1 => exact bl HB); (case side2 => exact Kd.R_tight rfl HO_5.out); rintro e w29 ⟨v291, rfl, ho0, hb, hkp⟩; refine ⟨_, rfl, ?_⟩; have n_ := mk2 (Kd.R_mono (ok' := fun k_ => True) ho0 (fun k_ hk_ => trivial)) (hb); clear HB HO_5; obtain ⟨HO292, HB⟩ := n_; (try clear hb); (try clear hkp); (try clear ho0)))
      go_ret
      exact ⟨_, by first | rfl | (simp [errW_none, errW_some] <;> rfl) | (simp only [← hji3]; first | rfl | (simp [errW_none, errW_some] <;> rfl)) | (simp [*, errW_none, errW_some] <;> rfl), ra HO292.out, bl HB⟩
  ·rw [if_neg c5] at H
   exact absurd H (by simp)
 ·rw [if_neg c4] at H
  exact absurd H (by simp)
end Go.Proofs.Ytjppanekddljbaa.Pr
/- nats.Trim and oracle.Of: each Lean function and that the Go code computes it. -/
namespace Go.Proofs.Ytjppanekddljbaa.Pr
open Go.RowKit Go.Proofs.Ytjppanekddljbaa.H Go.Proofs.YtjppanekddljbaaW.PrintWords Go.Proofs.YtjppanekddljbaaW.PrintLast Go.Proofs.YtjppanekddljbaaW.PrintMore
attribute [local go_sem] max2_int min2_int max_two min_two max_three min_three max_four min_four
theorem R_make0 {w w1 : World} {v : Value} (h : w1.ownsRow w.heap.size 3 1 v 0 []) : Kd.R (Kd.int .i64) 3 w1 w.heap.size (fun _ => True) v [] := Kd.R_of_own h (fun _ _ => trivial)
def nats_Trim.f (_k : Nat) (l0 : List Int) : Option (List Int) := if l0.length < 35184372088832 then some (cutL l0) else none
set_option maxHeartbeats 1000000 in
theorem nats_Trim.calls (k : Nat) (A0 : Option Addr) (c0 : Nat) (l0 : List Int) (r : List Int) (w : World) (hr0 : Kd.C (Kd.int .u32) w A0 l0.length l0) (hc0 : l0.length ≤ c0) (h : nats_Trim.f k l0 = some r) :
  Calls Try.prog 64 #[.slice A0 l0.length c0] w fun e w' => ∃ v0_ : Value, e = .returned (v0_) ∧ Kd.R (Kd.int .u32) 99 w' w.heap.size (fun _ => True) v0_ r ∧ Below w.heap.size w w' := by
 have hbig : l0.length < 35184372088832 := by
  refine Decidable.byContradiction fun hn => ?_
  rw [nats_Trim.f, if_neg hn] at h
  exact absurd h (by simp)
 rw [nats_Trim.f, if_pos hbig] at h
 have HE0 := Aside0.mk (Option.some.inj h)
 have HR := Aside0.mk hr0
 clear hr0 h
 go_enter Try.func64, Try.ntmps64
 go_wp2
 go_loopg [3] l0.length (fun kq v3 w' => ∃ n : Nat, v3 = .int .i64 n ∧ n = kq ∧ n ≤ l0.length ∧ Aside0 (cutn l0 n = cutn l0 l0.length) ∧ w' = w)
 case atStart => exact ⟨l0.length, rfl, rfl, Nat.le_refl _, ⟨rfl⟩, rfl⟩
 case round =>
  obtain ⟨n, rfl, rfl, hn, HE, rfl⟩ := hrel
  cases n with
  | zero =>
   have HL : Aside0 (l0.take 0 = r) := ⟨by rw [← HE0.out, cutL, ← HE.out]; rfl⟩
   clear HE
   have HRT := Aside0.mk (Kd.C_take (m := 0) HR.out (by omega))
   go_wp2_with (first | ((with_reducible refine gate_builtin (b := .append) (xs := #[.const (.slice none 0 0), .tmp 20]) rfl ?_); at_builtin; refine Kd.R_append_row (Value.int .u32) 0 (h1 := fun _ => rfl) (w0 := wr) wr.heap.size rfl (.const (.slice none 0 0)) (.tmp 20) 34 99 (.int .u32 0) 4 rfl Try.underlying34 info99 rfl (by omega) (.slice none 0 0) ([] : List Int) (l0.take 0) _ 0 _ (fun _ => True) rfl rfl (fun _ _ => trivial) (Kd.R_nil _ _ _ _ _) ?aR (Below.refl _ _) (Nat.le_refl _) ?aL ?_; (case aR => exact HRT.out); (case aL => simp); intro v1 w1 ho hb _ _; have HO := Aside0.mk ho; have HB := Aside0.mk hb; clear ho hb))
   go_ret
   exact ⟨_, rfl, by rw [← HL.out]; exact HO.out, HB.out⟩
  | succ m =>
   obtain ⟨ad, e, hx⟩ := Kd.at_int HR.out (m : Int) (by omega) (by omega)
   cases e
   simp only [Int.toNat_natCast] at hx
   by_cases h0 : rd l0 m = 0
   ·have h0b : (rd l0 m == 0) = true := beq_iff_eq.mpr h0
    have HE2 : Aside0 (cutn l0 m = cutn l0 l0.length) := ⟨by rw [← HE.out, cutn, if_pos h0]⟩
    clear HE h0
    go_wp2
    go_roundg m
    case measure => omega
    case rel => exact ⟨m, by go_num, rfl, by omega, HE2, rfl⟩
   ·have h0b : (rd l0 m == 0) = false := beq_eq_false_iff_ne.mpr h0
    have HL : Aside0 (l0.take (m + 1) = r) := ⟨by rw [← HE0.out, cutL, ← HE.out, cutn, if_neg h0]⟩
    clear HE h0
    have HRT := Aside0.mk (Kd.C_take (m := m + 1) HR.out hn)
    have HN : Aside0 ((l0.take (m + 1)).length = m + 1) := ⟨by rw [List.length_take]; omega⟩
    go_wp2_with (first | ((with_reducible refine gate_builtin (b := .append) (xs := #[.const (.slice none 0 0), .tmp 20]) rfl ?_); at_builtin; refine Kd.R_append_row (Value.int .u32) 0 (h1 := fun _ => rfl) (w0 := wr) wr.heap.size rfl (.const (.slice none 0 0)) (.tmp 20) 34 99 (.int .u32 0) 4 rfl Try.underlying34 info99 rfl (by omega) (.slice none 0 0) ([] : List Int) (l0.take (m + 1)) _ (m + 1) _ (fun _ => True) rfl rfl (fun _ _ => trivial) (Kd.R_nil _ _ _ _ _) ?aR (Below.refl _ _) (Nat.le_refl _) ?aL ?_; (case aR => have h_ := HRT.out; rw [HN.out] at h_; exact h_); (case aL => simp; omega); intro v1 w1 ho hb _ _; have HO := Aside0.mk ho; have HB := Aside0.mk hb; clear ho hb))
    go_ret
    exact ⟨_, rfl, by rw [← HL.out]; exact HO.out, HB.out⟩
def oracle_Of.l0 : Nat → List Int → List (S68) → Int → Int → Option (List Int × Int)
 | 0, _, _, _, _ => none
 | k + 1, x4, x10, x11, x12 => if x12 < x11 then (if 0 ≤ x12 then (if x12 < (x10.length : Int) then (if ((rd_T68 x10 x12).f0) < 2 then (some (([] : List Int), 2)) else (if ((rd_T68 x10 x12).f1) < 0 then (some (([] : List Int), 2)) else (if ((rd_T68 x10 x12).f1) ≥ ((rd_T68 x10 x12).f0) then (some (([] : List Int), 2)) else (if x4.length < 17592186044416 then (oracle_Of.l0 k (x4 ++ [(rd_T68 x10 x12).f1]) x10 x11 (wrap64 (x12 + 1))) else (none))))) else (none)) else (none)) else (some (x4, 0))
def oracle_Of.f (k : Nat) (l0 : List (S68)) : Option (List Int × Int) := if l0.length ≤ 8796093022208 then oracle_Of.l0 k ([] : List Int) l0 (l0.length : Int) 0 else none
set_option maxHeartbeats 8000000 in
set_option maxRecDepth 100000 in
theorem oracle_Of.calls (k : Nat) (A0 : Option Addr) (c0 : Nat) (l0 : List (S68)) (r1 : List Int) (r2 : Int) (w : World) (hr0 : Kd.C k68 w A0 l0.length l0) (hc0 : l0.length ≤ c0) (h : oracle_Of.f k l0 = some (r1, r2)) :
  Calls Try.prog 55 #[.slice A0 l0.length c0] w fun e w' => ∃ v0_ : Value, e = .returned (.tuple #[v0_, .int .i64 r2]) ∧ Kd.R (Kd.int .i64) 3 w' w.heap.size (fun _ => True) v0_ r1 ∧ Below w.heap.size w w' := by
 have hu68 := Try.underlying68
 have HR0 := Aside0.mk hr0
 have HC0 := Aside0.mk hc0
 clear hr0 hc0
 have HB := Aside0.mk (Below.refl w.heap.size w)
 have hbig : l0.length ≤ 8796093022208 := by
  refine Decidable.byContradiction fun hn => ?_
  rw [oracle_Of.f, if_neg hn] at h
  exact absurd h (by simp)
 rw [oracle_Of.f, if_pos hbig] at h
 have BIG := Aside0.mk hbig
 clear hbig
 have H : (oracle_Of.l0 k ([] : List Int) l0 (l0.length : Int) 0) = some (r1, r2) := h
 clear h
 have H' := Aside0.mk H
 clear H
 obtain ⟨i0, hi, hz0, hz1, hz2⟩ := info_parts info3
 go_enter Try.func55, Try.ntmps55
 go_wp2_with (at_make; refine wpList_make_own _ rfl _ _ 84 rfl w.heap.size 3 i0 (.int .i64 0) 1 Try.underlying84 hi hz0 hz1 .i64 .i64 _ l0.length rfl rfl (by omega) (by rw [hz2]; have := BIG.out; omega) (by unfold maxLen; have := BIG.out; omega) (Nat.le_refl _) ?_; intro w1 ho1 hg1; have HO := Aside0.mk (R_make0 (w := w) (w1 := w1) ho1); have HB1 := Aside0.mk (pw_below_grown HB.out none (Nat.le_refl _) hg1 (fun k hk => by cases hk)); clear HB; have HB := HB1; clear HB1 ho1 hg1)
 go_loopg [4, 12] k (fun kq v4 v12 w' => ∃ (x4_1 : List Int) (x12_1 : Int), v12 = .int .i64 x12_1 ∧ Aside0 (oracle_Of.l0 kq x4_1 l0 (l0.length : Int) x12_1 = some (r1, r2)) ∧ Aside0 (kq ≤ k) ∧ Aside0 (Kd.R (Kd.int .i64) 3 w' w.heap.size (fun _ => True) v4 x4_1) ∧ Aside0 (Below w.heap.size w w'))
 case atStart => exact ⟨(([] : List Int)), (0), (by first | rfl | (simp; done) | (simp [*]; done)), H', ⟨Nat.le_refl _⟩, ⟨ra HO.out⟩, ⟨bl HB⟩⟩
 case round =>
  clear H'
  obtain ⟨x4_1, x12_1, rfl, HA, HK1, HO_4, HB⟩ := hrel
  cases gk with
  | zero => exact absurd HA.out (by simp [oracle_Of.l0])
  | succ k1 =>
   have H := HA.out
   clear HA
   simp only [oracle_Of.l0] at H
   by_cases c2 : x12_1 < (l0.length : Int)
   ·rw [if_pos c2] at H
    have c2b0 : decide (x12_1 < (l0.length : Int)) = true := decide_eq_true c2
    clear c2
    by_cases c3 : 0 ≤ x12_1
    ·rw [if_pos c3] at H
     have c3b0 : decide (0 ≤ x12_1) = true := decide_eq_true c3
     clear c3
     by_cases c4 : x12_1 < (l0.length : Int)
     ·rw [if_pos c4] at H
      have c4b0 : decide (x12_1 < (l0.length : Int)) = true := decide_eq_true c4
      clear c4
      by_cases c5 : ((rd_T68 l0 x12_1).f0) < 2
      ·rw [if_pos c5] at H
       have c5b0 : decide (((rd_T68 l0 x12_1).f0) < 2) = true := decide_eq_true c5
       clear c5
       simp only [Option.some.injEq, Prod.mk.injEq] at H
       obtain ⟨rfl, rfl⟩ := H
       have p101 : 0 ≤ (x12_1 : Int) := of_decide_eq_true (by first | (with_reducible assumption) | assumption)
       have q101 : x12_1 < (l0.length : Int) := of_decide_eq_true (by first | (with_reducible assumption) | assumption)
       obtain ⟨ad101, e101, hx101_0, hx101_1⟩ := at_T68 HR0.out x12_1 p101 q101
       cases e101
       replace hx101_0 := (HB.out.cell (World.block_lt_of_cell? w _ hx101_0)).trans hx101_0
       replace hx101_1 := (HB.out.cell (World.block_lt_of_cell? w _ hx101_1)).trans hx101_1
       replace p101 := eq_true p101
       replace q101 := eq_true q101
       go_wp2_with (first | ((with_reducible refine gate_dst (N := 6) rfl ?_); refine box_event ?hg (N := 6) ?hd (cs := #[.int .i64 0, .int .i64 0]) (t := 68) ?hr ?_; (case hd => rfl); (case hg => rfl); (case hr => first | (go_simp; done) | (go_simp; rfl)); intro gb102 hg w6 hbox hb; have n_ := mk5 (Kd.R_below (ra HO_4.out) hb) (below_step (bl HB) hb) (hbox) ((by rw [hg]; exact (below_size (bl HB)) : w.heap.size ≤ gb102)) ((by rw [hg]; exact (below_size (bl HB)) : w.heap.size ≤ gb102)); clear HO_4 HB; obtain ⟨HO_4, HB, BK102, GW102, GE102⟩ := n_; clear hb hbox hg; obtain ⟨hcz7_0, hcz7_1, hfz7_0, hfz7_1⟩ := blk2 BK102.out))
       go_ret2
       exact ⟨_, by first | rfl | simp [*], by first | exact Kd.R_nil _ _ _ _ _ | exact Kd.V_nil _ _ _ _ _, bl1 HB GE102⟩
      ·rw [if_neg c5] at H
       have c5b0 : decide (((rd_T68 l0 x12_1).f0) < 2) = false := decide_eq_false c5
       clear c5
       by_cases c8 : ((rd_T68 l0 x12_1).f1) < 0
       ·rw [if_pos c8] at H
        have c8b0 : decide (((rd_T68 l0 x12_1).f1) < 0) = true := decide_eq_true c8
        clear c8
        simp only [Option.some.injEq, Prod.mk.injEq] at H
        obtain ⟨rfl, rfl⟩ := H
        have p101 : 0 ≤ (x12_1 : Int) := of_decide_eq_true (by first | (with_reducible assumption) | assumption)
        have q101 : x12_1 < (l0.length : Int) := of_decide_eq_true (by first | (with_reducible assumption) | assumption)
        obtain ⟨ad101, e101, hx101_0, hx101_1⟩ := at_T68 HR0.out x12_1 p101 q101
        cases e101
        replace hx101_0 := (HB.out.cell (World.block_lt_of_cell? w _ hx101_0)).trans hx101_0
        replace hx101_1 := (HB.out.cell (World.block_lt_of_cell? w _ hx101_1)).trans hx101_1
        replace p101 := eq_true p101
        replace q101 := eq_true q101
        go_wp2_with (first | ((with_reducible refine gate_dst (N := 6) rfl ?_); refine box_event ?hg (N := 6) ?hd (cs := #[.int .i64 0, .int .i64 0]) (t := 68) ?hr ?_; (case hd => rfl); (case hg => rfl); (case hr => first | (go_simp; done) | (go_simp; rfl)); intro gb102 hg w9 hbox hb; have n_ := mk5 (Kd.R_below (ra HO_4.out) hb) (below_step (bl HB) hb) (hbox) ((by rw [hg]; exact (below_size (bl HB)) : w.heap.size ≤ gb102)) ((by rw [hg]; exact (below_size (bl HB)) : w.heap.size ≤ gb102)); clear HO_4 HB; obtain ⟨HO_4, HB, BK102, GW102, GE102⟩ := n_; clear hb hbox hg; obtain ⟨hcz10_0, hcz10_1, hfz10_0, hfz10_1⟩ := blk2 BK102.out))
        go_ret2
        exact ⟨_, by first | rfl | simp [*], by first | exact Kd.R_nil _ _ _ _ _ | exact Kd.V_nil _ _ _ _ _, bl1 HB GE102⟩
       ·rw [if_neg c8] at H
        have c8b0 : decide (((rd_T68 l0 x12_1).f1) < 0) = false := decide_eq_false c8
        clear c8
        by_cases c11 : ((rd_T68 l0 x12_1).f1) ≥ ((rd_T68 l0 x12_1).f0)
        ·rw [if_pos c11] at H
         have c11b0 : decide (((rd_T68 l0 x12_1).f0) ≤ ((rd_T68 l0 x12_1).f1)) = true := decide_eq_true c11
         clear c11
         simp only [Option.some.injEq, Prod.mk.injEq] at H
         obtain ⟨rfl, rfl⟩ := H
         have p101 : 0 ≤ (x12_1 : Int) := of_decide_eq_true (by first | (with_reducible assumption) | assumption)
         have q101 : x12_1 < (l0.length : Int) := of_decide_eq_true (by first | (with_reducible assumption) | assumption)
         obtain ⟨ad101, e101, hx101_0, hx101_1⟩ := at_T68 HR0.out x12_1 p101 q101
         cases e101
         replace hx101_0 := (HB.out.cell (World.block_lt_of_cell? w _ hx101_0)).trans hx101_0
         replace hx101_1 := (HB.out.cell (World.block_lt_of_cell? w _ hx101_1)).trans hx101_1
         replace p101 := eq_true p101
         replace q101 := eq_true q101
         go_wp2_with (first | ((with_reducible refine gate_dst (N := 6) rfl ?_); refine box_event ?hg (N := 6) ?hd (cs := #[.int .i64 0, .int .i64 0]) (t := 68) ?hr ?_; (case hd => rfl); (case hg => rfl); (case hr => first | (go_simp; done) | (go_simp; rfl)); intro gb102 hg w12 hbox hb; have n_ := mk5 (Kd.R_below (ra HO_4.out) hb) (below_step (bl HB) hb) (hbox) ((by rw [hg]; exact (below_size (bl HB)) : w.heap.size ≤ gb102)) ((by rw [hg]; exact (below_size (bl HB)) : w.heap.size ≤ gb102)); clear HO_4 HB; obtain ⟨HO_4, HB, BK102, GW102, GE102⟩ := n_; clear hb hbox hg; obtain ⟨hcz13_0, hcz13_1, hfz13_0, hfz13_1⟩ := blk2 BK102.out))
         go_ret2
         exact ⟨_, by first | rfl | simp [*], by first | exact Kd.R_nil _ _ _ _ _ | exact Kd.V_nil _ _ _ _ _, bl1 HB GE102⟩
        ·rw [if_neg c11] at H
         have c11b0 : decide (((rd_T68 l0 x12_1).f0) ≤ ((rd_T68 l0 x12_1).f1)) = false := decide_eq_false c11
         clear c11
         by_cases c14 : x4_1.length < 17592186044416
         ·rw [if_pos c14] at H
          have LMc14 := Aside0.mk c14
          clear c14
          obtain ⟨y103, hy103⟩ : ∃ y_ : List Int, y_ = (x4_1 ++ [(rd_T68 l0 x12_1).f1]) := ⟨_, rfl⟩
          replace H : (oracle_Of.l0 k1 y103 l0 (l0.length : Int) (wrap64 (x12_1 + 1))) = some (r1, r2) := by rw [hy103]; exact H
          have Ny103 := Aside0.mk hy103
          clear hy103
          have H' := Aside0.mk H
          clear H
          have p101 : 0 ≤ (x12_1 : Int) := of_decide_eq_true (by first | (with_reducible assumption) | assumption)
          have q101 : x12_1 < (l0.length : Int) := of_decide_eq_true (by first | (with_reducible assumption) | assumption)
          obtain ⟨ad101, e101, hx101_0, hx101_1⟩ := at_T68 HR0.out x12_1 p101 q101
          cases e101
          replace hx101_0 := (HB.out.cell (World.block_lt_of_cell? w _ hx101_0)).trans hx101_0
          replace hx101_1 := (HB.out.cell (World.block_lt_of_cell? w _ hx101_1)).trans hx101_1
          replace p101 := eq_true p101
          replace q101 := eq_true q101
          go_wp2_with (first | ((with_reducible refine gate_dst (N := 6) rfl ?_); refine box_event ?hg (N := 6) ?hd (cs := #[.int .i64 0, .int .i64 0]) (t := 68) ?hr ?_; (case hd => rfl); (case hg => rfl); (case hr => first | (go_simp; done) | (go_simp; rfl)); intro gb102 hg w15 hbox hb; have n_ := mk5 (Kd.R_below (ra HO_4.out) hb) (below_step (bl HB) hb) (hbox) ((by rw [hg]; exact (below_size (bl HB)) : w.heap.size ≤ gb102)) ((by rw [hg]; exact (below_size (bl HB)) : w.heap.size ≤ gb102)); clear HO_4 HB; obtain ⟨HO_4, HB, BK102, GW102, GE102⟩ := n_; clear hb hbox hg; obtain ⟨hcz16_0, hcz16_1, hfz16_0, hfz16_1⟩ := blk2 BK102.out) | ((with_reducible refine gate_builtin (b := .append) (xs := #[.tmp 31, .tmp 34]) rfl ?_); at_builtin; refine Kd.R_append (Kd.int .i64) (w0 := w) w.heap.size rfl (.tmp 31) (.tmp 34) 84 3 (.int .i64 0) 8 rfl Try.underlying84 info3 rfl (by decide) (by omega) u4 x4_1 ((rd_T68 l0 x12_1).f1) [.int .i64 ((rd_T68 l0 x12_1).f1)] (fun _ => True) (fun _ => False) rfl (by first | (go_simp; done) | (go_simp; rfl)) ?aP (fun _ hk => hk.elim) ?aF ?aO ?aB ?aS ?aL ?_; (case aP => exact rfl); (case aB => exact (bl1 HB GE102)); (case aF => exact (fun _ _ => trivial)); (case aO => exact (ra (Kd.R_mono (Kd.R_far (p := ⟨gb102, 1, none⟩) (Kd.R_far (p := ⟨gb102, 0, none⟩) (Kd.R_types HO_4.out BK102.out (by decide)) (fun _ hk => hk.2) (.int .i64 ((rd_T68 l0 x12_1).f0))) (fun _ hk => hk.2) (.int .i64 ((rd_T68 l0 x12_1).f1))) (fun _ hk => trivial)))); (case aS => exact (below_size (bl1 HB GE102))); (case aL => have := LMc14.out; omega); intro v104 w17 ho hb hg hat; rw [← Ny103.out] at ho; have n_ := mk3 (blk_grown (g := gb102) (o := .cells #[.int .i64 ((rd_T68 l0 x12_1).f0), .int .i64 ((rd_T68 l0 x12_1).f1)] 68 (0, 0)) (by exact bp BK102.out rfl) hg (Kd.R_ne HO_4.out BK102.out (by decide))) (hb) (ho); clear BK102 HB HO_4; obtain ⟨BK102, HB, HO105⟩ := n_; clear ho hb hg hat))
          go_roundg k1
          case measure => have := HK1.out; omega
          case rel => exact ⟨(y103), (wrap64 (x12_1 + 1)), (by first | rfl | (simp; done) | (simp [*]; done)), H', ⟨by have := HK1.out; omega⟩, ⟨ra HO105.out⟩, ⟨bl1 HB GE102⟩⟩
         ·rw [if_neg c14] at H
          exact absurd H (by simp)
     ·rw [if_neg c4] at H
      exact absurd H (by simp)
    ·rw [if_neg c3] at H
     exact absurd H (by simp)
   ·rw [if_neg c2] at H
    have c2b0 : decide (x12_1 < (l0.length : Int)) = false := decide_eq_false c2
    clear c2
    simp only [Option.some.injEq, Prod.mk.injEq] at H
    obtain ⟨rfl, rfl⟩ := H
    go_wp2
    go_ret2
    exact ⟨_, by first | rfl | simp [*], ra HO_4.out, bl HB⟩
end Go.Proofs.Ytjppanekddljbaa.Pr
/- odds.good: that the Go code answers goodB. -/
namespace Go.Proofs.Ytjppanekddljbaa.Pr
open Go.RowKit Go.Proofs.Ytjppanekddljbaa.H Go.Proofs.YtjppanekddljbaaW.PrintWords Go.Proofs.YtjppanekddljbaaW.PrintLast Go.Proofs.YtjppanekddljbaaW.PrintMore
set_option maxHeartbeats 1000000 in
theorem big_calls (a b : Int) (w : World) :
    Calls Try.prog 57 #[.agg #[.int .i64 a, .int .i64 b]] w fun e w' => e = .returned (.bool (decide (4096 < a))) ∧ Below w.heap.size w w' := by
  go_enter Try.func57, Try.ntmps57
  go_wp2
  go_ret
  exact ⟨rfl, below_alloc (Below.refl _ _) _⟩
def SomeIndex (l : List S68) (w : World) (e : Ending) (w' : World) : Prop :=
  ∃ i : Int, e = .returned (.int .i64 i) ∧ (0 ≤ i ↔ ∃ j : Nat, j < l.length ∧ 4096 < (rd_T68 l j).f0) ∧ Below w.heap.size w w'
set_option maxHeartbeats 1000000 in
theorem index_calls (A : Option Addr) (c : Nat) (l : List S68) (w : World) (hr : Kd.C k68 w A l.length l) (hc : l.length ≤ c) :
    Calls Try.prog 84 #[.slice A l.length c, .func (.func 57) #[] #[]] w (SomeIndex l w) := by
  have hu68 := Try.underlying68
  have hmax : l.length ≤ 9223372036854775807 := hr.2.1
  have HR := Aside0.mk hr
  clear hr
  go_enter Try.func84, Try.ntmps84
  go_wp2
  go_loopg [8] l.length (fun kq v8 w' => ∃ i : Nat, v8 = .int .i64 i ∧ kq = l.length - i ∧ i ≤ l.length ∧ Aside0 (∀ j : Nat, j < i → ¬ 4096 < (rd_T68 l j).f0) ∧ Aside0 (Below w.heap.size w w'))
  case atStart => exact ⟨0, rfl, by omega, by omega, ⟨fun j hj => by omega⟩, ⟨Below.refl _ _⟩⟩
  case round =>
    obtain ⟨i, rfl, hk, hi, HN, HB⟩ := hrel
    by_cases hlt : i < l.length
    · obtain ⟨ad, e, hx0, hx1⟩ := at_T68 HR.out (i : Int) (by omega) (by omega)
      cases e
      replace hx0 := (HB.out.cell (World.block_lt_of_cell? w _ hx0)).trans hx0
      replace hx1 := (HB.out.cell (World.block_lt_of_cell? w _ hx1)).trans hx1
      simp only [Int.toNat_natCast] at hx0 hx1
      have HK := Aside0.mk hk
      clear hk
      by_cases hb : 4096 < (rd_T68 l i).f0
      · have hbb : decide (4096 < (rd_T68 l i).f0) = true := decide_eq_true hb
        have HBIG := Aside0.mk hb
        clear hb
        go_wp2_with (go_at_call 57; refine (big_calls _ _ _).mono ?_; rintro e w' ⟨rfl, hb1⟩; have HB1 := Aside0.mk hb1; clear hb1)
        go_ret
        exact ⟨i, rfl, ⟨fun _ => ⟨i, hlt, HBIG.out⟩, fun _ => by omega⟩, below_then HB.out HB.out.size HB1.out⟩
      · have hbb : decide (4096 < (rd_T68 l i).f0) = false := decide_eq_false hb
        have HSM := Aside0.mk hb
        clear hb
        go_wp2_with (go_at_call 57; refine (big_calls _ _ _).mono ?_; rintro e w' ⟨rfl, hb1⟩; have HB1 := Aside0.mk hb1; clear hb1)
        go_roundg (l.length - (i + 1))
        case measure => have := HK.out; omega
        case rel =>
          exact ⟨i + 1, by go_num, rfl, by omega, ⟨fun j hj => by
            by_cases e : j = i
            · subst e; exact HSM.out
            · exact HN.out j (by omega)⟩, ⟨below_then HB.out HB.out.size HB1.out⟩⟩
    · have HK := Aside0.mk hk
      clear hk
      go_wp2
      go_ret
      exact ⟨-1, rfl, ⟨fun h => by omega, fun ⟨j, hj, hb⟩ => by have := HN.out j (by omega); omega⟩, HB.out⟩
def BigB (l : List S68) : Bool := l.any fun p => decide (4096 < p.f0)
theorem rd68 (l : List S68) (j : Nat) (h : j < l.length) : rd_T68 l j = l[j] := by simp [rd_T68, List.getD, h]
theorem bigB_iff (l : List S68) : (∃ j : Nat, j < l.length ∧ 4096 < (rd_T68 l j).f0) ↔ BigB l = true := by
  unfold BigB
  rw [List.any_eq_true]
  constructor
  · rintro ⟨j, hj, h⟩
    exact ⟨l[j], List.getElem_mem hj, by rw [rd68 l j hj] at h; simpa using h⟩
  · rintro ⟨p, hp, h⟩
    obtain ⟨j, hj, rfl⟩ := List.getElem_of_mem hp
    exact ⟨j, hj, by rw [rd68 l j hj]; simpa using h⟩
set_option maxHeartbeats 1000000 in
theorem contains_calls (A : Option Addr) (c : Nat) (l : List S68) (w : World) (hr : Kd.C k68 w A l.length l) (hc : l.length ≤ c) :
    Calls Try.prog 56 #[.slice A l.length c, .func (.func 57) #[] #[]] w fun e w' => e = .returned (.bool (BigB l)) ∧ Below w.heap.size w w' := by
  have HR := Aside0.mk hr
  have HC := Aside0.mk hc
  clear hr hc
  go_enter Try.func56, Try.ntmps56
  go_wp2_with (go_at_call 84; refine (index_calls A c l _ HR.out HC.out).mono ?_; rintro e w' ⟨i, rfl, hi, hb1⟩; have HI := Aside0.mk hi; have HB1 := Aside0.mk hb1; clear hb1 hi)
  go_ret
  refine ⟨?_, HB1.out⟩
  have h := HI.out.trans (bigB_iff l)
  cases hb : BigB l
  · rw [hb] at h
    have : ¬ 0 ≤ i := fun h0 => absurd (h.1 h0) (by simp)
    simp [this]
  · rw [hb] at h
    have : 0 ≤ i := h.2 rfl
    simp [this]
def okP (p : S68) : Bool := decide (2 ≤ p.f0 ∧ 0 ≤ p.f1 ∧ p.f1 < p.f0)
theorem of_tells (l : List S68) (hl : l.length ≤ 8796093022208) (d : Nat) : ∀ (k : Nat) (i : Nat) (x : List Int), i ≤ l.length → l.length - i = d → d < k → x.length ≤ i →
    ∃ r e, oracle_Of.l0 k x l (l.length : Int) (i : Int) = some (r, e) ∧ (e = 0 ∨ e = 2) ∧ (e = 0 ↔ (l.drop i).all okP = true) := by
  induction d with
  | zero =>
    intro k i x hi hd hk hx
    obtain ⟨k, rfl⟩ : ∃ m, k = m + 1 := ⟨k - 1, by omega⟩
    refine ⟨x, 0, ?_, .inl rfl, ?_⟩
    · simp only [oracle_Of.l0]; rw [if_neg (by omega)]
    · rw [List.drop_of_length_le (by omega)]; simp
  | succ d ih =>
    intro k i x hi hd hk hx
    obtain ⟨k, rfl⟩ : ∃ m, k = m + 1 := ⟨k - 1, by omega⟩
    have hlt : i < l.length := by omega
    have hdrop : l.drop i = l[i] :: l.drop (i + 1) := by rw [List.drop_eq_getElem_cons hlt]
    have hrd := rd68 l i hlt
    simp only [oracle_Of.l0]
    rw [if_pos (by omega), if_pos (by omega), if_pos (by omega)]
    by_cases h1 : (rd_T68 l i).f0 < 2
    · rw [if_pos h1]
      refine ⟨_, _, rfl, .inr rfl, ?_⟩
      rw [hdrop, List.all_cons]
      have : okP l[i] = false := by unfold okP; rw [← hrd]; simp; omega
      simp [this]
    · rw [if_neg h1]
      by_cases h2 : (rd_T68 l i).f1 < 0
      · rw [if_pos h2]
        refine ⟨_, _, rfl, .inr rfl, ?_⟩
        rw [hdrop, List.all_cons]
        have : okP l[i] = false := by unfold okP; rw [← hrd]; simp; omega
        simp [this]
      · rw [if_neg h2]
        by_cases h3 : (rd_T68 l i).f1 ≥ (rd_T68 l i).f0
        · rw [if_pos h3]
          refine ⟨_, _, rfl, .inr rfl, ?_⟩
          rw [hdrop, List.all_cons]
          have : okP l[i] = false := by unfold okP; rw [← hrd]; simp; omega
          simp [this]
        · rw [if_neg h3, if_pos (by omega)]
          have hw : wrap64 ((i : Int) + 1) = ((i + 1 : Nat) : Int) := by unfold wrap64; omega
          rw [hw]
          obtain ⟨r, e, he, h4, h5⟩ := ih k (i + 1) (x ++ [(rd_T68 l i).f1]) (by omega) (by omega) (by omega) (by simp; omega)
          refine ⟨r, e, he, h4, ?_⟩
          rw [h5, hdrop, List.all_cons]
          have : okP l[i] = true := by unfold okP; rw [← hrd]; simp; omega
          simp [this]
theorem of_runs (l : List S68) (hl : l.length ≤ 8796093022208) : ∃ r e, oracle_Of.f (l.length + 1) l = some (r, e) ∧ (e = 0 ∨ e = 2) ∧ (e = 0 ↔ l.all okP = true) := by
  obtain ⟨r, e, h, h1, h2⟩ := of_tells l hl l.length (l.length + 1) 0 [] (by omega) (by omega) (by omega) (by simp)
  refine ⟨r, e, ?_, h1, by simpa using h2⟩
  rw [oracle_Of.f, if_pos hl]
  exact h
def goodB (l : List S68) : Bool := l.all okP && !BigB l
def odds_good.f (_k : Nat) (l0 : List S68) : Option Bool := if l0.length ≤ 8796093022208 then some (goodB l0) else none
set_option maxHeartbeats 1000000 in
theorem odds_good.calls (k : Nat) (A0 : Option Addr) (c0 : Nat) (l0 : List S68) (r : Bool) (w : World) (hr0 : Kd.C k68 w A0 l0.length l0) (hc0 : l0.length ≤ c0) (h : odds_good.f k l0 = some r) :
    Calls Try.prog 27 #[.slice A0 l0.length c0] w fun e w' => e = .returned (.bool r) ∧ Below w.heap.size w w' := by
  have hbig : l0.length ≤ 8796093022208 := by
    refine Decidable.byContradiction fun hn => ?_
    rw [odds_good.f, if_neg hn] at h
    exact absurd h (by simp)
  rw [odds_good.f, if_pos hbig] at h
  have HE := Aside0.mk (Option.some.inj h)
  have HR := Aside0.mk hr0
  have HC := Aside0.mk hc0
  clear hr0 h hc0
  obtain ⟨x, e, ho, h1, h2⟩ := of_runs l0 hbig
  have HO := Aside0.mk ho
  clear ho hbig
  rcases h1 with rfl | rfl
  · have H2 := Aside0.mk (h2.1 rfl)
    clear h2
    go_enter Try.func27, Try.ntmps27
    go_wp2_with (first
      | (go_at_call 55; refine (oracle_Of.calls _ A0 c0 l0 x 0 _ HR.out HC.out HO.out).mono ?_; rintro e w1 ⟨v0, rfl, hr1, hb1⟩; have HB1 := Aside0.mk hb1; clear hb1 hr1)
      | (go_at_call 56; refine (contains_calls A0 c0 l0 _ (Kd.C_below HR.out HB1.out) HC.out).mono ?_; rintro e w2 ⟨rfl, hb2⟩; have HB2 := Aside0.mk hb2; clear hb2))
    go_ret
    refine ⟨?_, below_then HB1.out HB1.out.size HB2.out⟩
    rw [← HE.out, goodB, H2.out]
    simp
  · have H2 := Aside0.mk (show l0.all okP = false from Bool.eq_false_iff.mpr fun hh => absurd (h2.2 hh) (by decide))
    clear h2
    go_enter Try.func27, Try.ntmps27
    go_wp2_with (first
      | (go_at_call 55; refine (oracle_Of.calls _ A0 c0 l0 x 2 _ HR.out HC.out HO.out).mono ?_; rintro e w1 ⟨v0, rfl, hr1, hb1⟩; have HB1 := Aside0.mk hb1; clear hb1 hr1))
    go_ret
    refine ⟨?_, HB1.out⟩
    rw [← HE.out, goodB, H2.out]
    simp
end Go.Proofs.Ytjppanekddljbaa.Pr
/- nats.QuoRem, the branches that are used here. -/
namespace Go.Proofs.Ytjppanekddljbaa.Pr
open Go.RowKit Go.Proofs.Ytjppanekddljbaa.H Go.Proofs.YtjppanekddljbaaW.PrintWords Go.Proofs.YtjppanekddljbaaW.PrintLast Go.Proofs.YtjppanekddljbaaW.PrintMore
def nats_QuoRem.f (k : Nat) (l0 : List Int) (l1 : List Int) : Option (List Int × List Int) :=
  (nats_Cmp.f k (cutL l0) (cutL l1)).bind fun c => if c < 0 then ((nats_Trim.f k (cutL l0)).bind fun t => some (([] : List Int), t))
    else if (cutL l1).length = 1 then ((nats_word.f k (cutL l0) (rd (cutL l1) 0)).bind fun b => (nats_cut.f k [b.2]).bind fun t => some (b.1, t)) else none
theorem R_any {v : Value} {w w' : World} {xs : List Int} (h : Kd.R (Kd.int .u32) 99 w' w.heap.size (fun _ => True) v xs) (u : Value) (hne : ∀ k, v.ownBlock = some k → u.ownBlock ≠ some k) :
    Kd.R (Kd.int .u32) 99 w' w.heap.size (fun k_ => some k_ ≠ u.ownBlock) v xs :=
  Kd.R_mono (Kd.R_tight rfl h) (fun k hk he => hne k hk.symm he.symm)
theorem below_undrewN {w w' : World} {n : Nat} (h : Below (w.drewN n).heap.size (w.drewN n) w') : Below w.heap.size w w' :=
  below_then (pw_below_drewN (Below.refl _ _) n) (Nat.le_refl _) h
set_option maxHeartbeats 2000000 in
theorem nats_QuoRem.calls (k : Nat) (A0 : Option Addr) (c0 : Nat) (l0 : List Int) (A1 : Option Addr) (c1 : Nat) (l1 : List Int) (r1 : List Int) (r2 : List Int) (w : World) (hr0 : Kd.C (Kd.int .u32) w A0 l0.length l0) (hc0 : l0.length ≤ c0) (hr1 : Kd.C (Kd.int .u32) w A1 l1.length l1) (hc1 : l1.length ≤ c1) (h : nats_QuoRem.f k l0 l1 = some (r1, r2)) :
    Calls Try.prog 91 #[.slice A0 l0.length c0, .slice A1 l1.length c1] w fun e w' => ∃ v0_ v1_ : Value, e = .returned (.tuple #[v0_, v1_]) ∧ Kd.R (Kd.int .u32) 99 w' w.heap.size (fun k_ => some k_ ≠ (v1_ : Value).ownBlock) v0_ r1 ∧ Kd.R (Kd.int .u32) 99 w' w.heap.size (fun k_ => some k_ ≠ (v0_ : Value).ownBlock) v1_ r2 ∧ Below w.heap.size w w' := by
  have HQ0 := Aside0.mk hr0
  have HQC0 := Aside0.mk hc0
  have HQ1 := Aside0.mk hr1
  have HQC1 := Aside0.mk hc1
  have HR0 := Aside0.mk (C_cutL hr0)
  have HR1 := Aside0.mk (C_cutL hr1)
  have HC0 := Aside0.mk (Nat.le_trans (cutL_le l0) hc0)
  have HC1 := Aside0.mk (Nat.le_trans (cutL_le l1) hc1)
  clear hr0 hr1 hc0 hc1
  unfold nats_QuoRem.f at h
  obtain ⟨q0, hq0⟩ : ∃ q : List Int, cutL l0 = q := ⟨_, rfl⟩
  obtain ⟨q1, hq1⟩ : ∃ q : List Int, cutL l1 = q := ⟨_, rfl⟩
  rw [hq0, hq1] at h
  rw [hq0] at HR0 HC0
  rw [hq1] at HR1 HC1
  have N0 := Aside0.mk hq0
  have N1 := Aside0.mk hq1
  clear hq0 hq1
  obtain ⟨c, hc, h⟩ := Option.bind_eq_some_iff.mp h
  have AC := Aside0.mk hc
  clear hc
  by_cases hlt : c < 0
  · rw [if_pos hlt] at h
    obtain ⟨t, ht, h⟩ := Option.bind_eq_some_iff.mp h
    have AT := Aside0.mk ht
    clear ht
    simp only [Option.some.injEq, Prod.mk.injEq] at h
    obtain ⟨rfl, rfl⟩ := h
    have hltb : decide (c < 0) = true := decide_eq_true hlt
    clear hlt
    go_enter Try.func91, Try.ntmps91
    go_wp2_with (first
      | ((with_reducible refine gate_callee (f := 92) rfl ?_); refine goesL_ (some 14) rfl rfl Try.func92 (by kernel_rfl) rfl #[.slice A0 l0.length c0] rfl (by (try simp only [List.map_toArray, List.map_cons, List.map_nil]); first | done | rfl) ?_; (with_reducible refine (cut_reads A0 c0 l0 _ ?hq0 HQC0.out).mono ?_); (case hq0 => exact HQ0.out); rintro e w' ⟨rfl, ⟨nd, rfl⟩⟩; refine ⟨_, rfl, ?_⟩; rw [N0.out])
      | ((with_reducible refine gate_callee (f := 92) rfl ?_); refine goesL_ (some 16) rfl rfl Try.func92 (by kernel_rfl) rfl #[.slice A1 l1.length c1] rfl (by (try simp only [List.map_toArray, List.map_cons, List.map_nil]); first | done | rfl) ?_; (with_reducible refine (cut_reads A1 c1 l1 _ ?hq1 HQC1.out).mono ?_); (case hq1 => exact HQ1.out); rintro e w' ⟨rfl, ⟨nd, rfl⟩⟩; refine ⟨_, rfl, ?_⟩; rw [N1.out])
      | (go_at_call 97; refine (nats_Cmp.calls k A0 c0 q0 A1 c1 q1 c _ ?a1 HC0.out ?a2 HC1.out AC.out).mono ?_; (case a1 => exact HR0.out); (case a2 => exact HR1.out); rintro e w' ⟨rfl, ⟨nd, rfl⟩⟩)
      | (go_at_call 64; refine (nats_Trim.calls k A0 c0 q0 t _ ?a3 HC0.out AT.out).mono ?_; (case a3 => exact HR0.out); rintro e w' ⟨v0, rfl, ho, hb⟩; have HO := Aside0.mk ho; have HB := Aside0.mk hb; clear ho hb))
    go_ret2
    exact ⟨_, _, rfl, Kd.R_nil _ _ _ _ _, R_any HO.out _ (fun k _ => by simp [Value.ownBlock]), below_undrewN HB.out⟩
  · rw [if_neg hlt] at h
    by_cases hone : q1.length = 1
    · rw [if_pos hone] at h
      obtain ⟨⟨qq, rr⟩, hw, h⟩ := Option.bind_eq_some_iff.mp h
      obtain ⟨t, ht, h⟩ := Option.bind_eq_some_iff.mp h
      have AW := Aside0.mk hw
      have AT := Aside0.mk ht
      clear hw ht
      simp only [Option.some.injEq, Prod.mk.injEq] at h
      obtain ⟨rfl, rfl⟩ := h
      have hltb : decide (c < 0) = false := decide_eq_false hlt
      have honeb : ((q1.length : Int) == 1) = true := beq_iff_eq.mpr (by omega)
      obtain ⟨ad, e, hx⟩ := Kd.at_int HR1.out 0 (by omega) (by omega)
      cases e
      have hge : (0 : Int) < (q1.length : Int) := by omega
      have hx2 : w.cell? ad = some (.int .u32 (rd q1 0)) := by simpa [go_sem] using hx
      clear hlt hone hx
      go_enter Try.func91, Try.ntmps91
      go_wp2_with (first
        | ((with_reducible refine gate_callee (f := 92) rfl ?_); refine goesL_ (some 14) rfl rfl Try.func92 (by kernel_rfl) rfl #[.slice A0 l0.length c0] rfl (by (try simp only [List.map_toArray, List.map_cons, List.map_nil]); first | done | rfl) ?_; (with_reducible refine (cut_reads A0 c0 l0 _ ?hq0 HQC0.out).mono ?_); (case hq0 => exact HQ0.out); rintro e w' ⟨rfl, ⟨nd, rfl⟩⟩; refine ⟨_, rfl, ?_⟩; rw [N0.out])
        | ((with_reducible refine gate_callee (f := 92) rfl ?_); refine goesL_ (some 16) rfl rfl Try.func92 (by kernel_rfl) rfl #[.slice (some ad) l1.length c1] rfl (by (try simp only [List.map_toArray, List.map_cons, List.map_nil]); first | done | rfl) ?_; (with_reducible refine (cut_reads (some ad) c1 l1 _ ?hq1 HQC1.out).mono ?_); (case hq1 => exact HQ1.out); rintro e w' ⟨rfl, ⟨nd, rfl⟩⟩; refine ⟨_, rfl, ?_⟩; rw [N1.out])
        | (go_at_call 97; refine (nats_Cmp.calls k A0 c0 q0 (some ad) c1 q1 c _ ?a1 HC0.out ?a2 HC1.out AC.out).mono ?_; (case a1 => exact HR0.out); (case a2 => exact HR1.out); rintro e w' ⟨rfl, ⟨nd, rfl⟩⟩)
        | (go_at_call 98; refine (nats_word.calls k A0 c0 q0 (rd q1 0) qq rr _ ?a3 HC0.out AW.out).mono ?_; (case a3 => exact HR0.out); rintro e w1 ⟨v0, rfl, ho, hb⟩; have HO := Aside0.mk ho; have HB := Aside0.mk (below_undrewN (w := w) hb); clear ho hb)
        | ((with_reducible refine gate_dst (N := 36) rfl ?_); refine Kd.R_lit (Kd.int .u32) _ 99 ?hg (N := 36) ?hd (xs := ([rr] : List Int)) (inner := [.int .u32 rr]) (ok := fun _ => True) (okp := fun _ => True) ?hr ?hp (fun _ hk => hk) trivial (Below.refl _ _) (Nat.le_refl _) (by simp) ?_; (case hd => rfl); (case hg => rfl); (case hr => first | (go_simp; done) | (go_simp; rfl)); (case hp => exact (Reps.one (show Kd.M (Kd.int .u32) _ _ _ rr [.int .u32 rr] from rfl) (Reps.none _ _))); intro v2 w2 ho2 hb2 hg_ hnew_; clear hg_ hnew_; have HO2 := Aside0.mk ho2; have HB2 := Aside0.mk hb2; clear ho2 hb2)
        | ((with_reducible refine gate_callee (f := 92) rfl ?_); refine goesL_ (some 37) rfl rfl Try.func92 (by kernel_rfl) rfl #[v2] rfl (by (try simp only [List.map_toArray, List.map_cons, List.map_nil]); first | done | rfl) ?_; (with_reducible refine (nats_cut.calls k (fun _ => True) v2 [rr] t w1 _ ?s1 ?s2 AT.out).mono ?_); (case s1 => exact HB2.out); (case s2 => exact HO2.out); rintro e w3 ⟨v3, rfl, ho3, hb3, hk3⟩; refine ⟨_, rfl, ?_⟩; have HO3 := Aside0.mk ho3; have HB3 := Aside0.mk hb3; clear ho3 hb3 hk3))
      go_ret2
      have hlt1 := own_lt (Kd.own_of_R HO.out)
      have hge3 := own_base (Kd.own_of_R HO3.out)
      refine ⟨_, _, rfl, ?_, ?_, ?_⟩
      · refine R_any (w := w) (Kd.R_below HO.out HB3.out) _ (fun k hk he => ?_)
        have a := hlt1 k hk
        have b := hge3 k he
        omega
      · refine R_any (w := w) (Kd.R_mono (Kd.R_lower HO3.out HB.out.size) (fun _ _ => trivial)) _ (fun k hk he => ?_)
        have a := hlt1 k he
        have b := hge3 k hk
        omega
      · exact below_then HB.out HB.out.size HB3.out
    · rw [if_neg hone] at h
      exact absurd h (by simp)
end Go.Proofs.Ytjppanekddljbaa.Pr
