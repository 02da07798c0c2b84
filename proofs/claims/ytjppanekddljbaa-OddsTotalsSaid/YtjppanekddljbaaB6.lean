/- What the reference's round answers. -/
import Derived.Test.YtjppanekddljbaaB5
namespace Go.Proofs.Ytjppanekddljbaa.Lb
set_option linter.unusedVariables false
set_option linter.unusedSimpArgs false
open Go.RowKit Go.Proofs.Ytjppanekddljbaa.Pr Go.Proofs.YtjppanekddljbaaW.PrintWords Go.Proofs.YtjppanekddljbaaW.PrintLast Go.Proofs.YtjppanekddljbaaW.PrintMore
open Go.Proofs.Ytjppanekddljbaa.Fl

theorem norm_len_le {l : List Nat} (hL : Lim l) {n : Nat} (h : n ≤ val l) : (norm n).length ≤ l.length := norm_length_le (Nat.lt_of_le_of_lt h (val_lt hL))

theorem man_loop {q : List Nat} (hq : Lim q) (hlen : q.length ≤ 100000) (hv : val q < 9223372036854775808) {neg : Bool} {e : Int} {rest : Bool} {s : Int} {r : Int}
    (h : Ev (fun k => if rest = true then ((sibylref03_Join.f k neg ((2 * val q + 1 : Nat) : Int) (wrap64 ((wrap64 (e + s)) - 1))).bind fun t => (some t)) else ((sibylref03_Join.f k neg ((2 * val q : Nat) : Int) (wrap64 ((wrap64 (e + s)) - 1))).bind fun t => (some t))) r) :
    ∀ n, n ≤ q.length → Ev (fun k => sibylref21_round.l0 k neg e rest s (U q) ((val (q.drop n) : Nat) : Int) ((n : Int) - 1)) r := by
  intro n
  induction n with
  | zero =>
    intro _
    rw [List.drop_zero]
    refine Ev.step ?_ h
    intro k
    simp only [sibylref21_round.l0]
    rw [if_neg (by omega), wu64 (x := 2 * ((val q : Nat) : Int)) (by omega) (by omega), wu64 (by omega) (by omega)]
    rfl
  | succ n ih =>
    intro hn
    have h1 := lim_get hq n
    have h2 := val_drop q n
    have h3 : val (q.drop n) ≤ val q := by rw [val_drop_div hq]; exact Nat.div_le_self _ _
    refine Ev.step (f := fun k => sibylref21_round.l0 k neg e rest s (U q) ((val (q.drop n) : Nat) : Int) ((n : Int) - 1)) (fun k => ?_) (ih (by omega))
    simp only [sibylref21_round.l0, U_length]
    rw [show (((n + 1 : Nat) : Int) - 1) = (n : Int) by omega, if_pos (by omega), if_pos (by omega), if_pos (by omega), rd_U, wuN (n := q.getD n 0) (by omega), wu64 (x := ((val (q.drop (n + 1)) : Nat) : Int) * 4294967296) (by omega) (by omega), wu64 (by omega) (by omega), w64 (by omega) (by omega)]
    congr 1
    omega

theorem round_j0 {l : List Nat} (hL : Lim l) (hlen : l.length ≤ 100000) (h63 : 63 ≤ size (val l)) (hsz : size (val l) ≤ 900000) {neg rest : Bool} {e : Int} (he0 : -2000 ≤ e) (he1 : e + size (val l) ≤ 2000) :
    Ev (fun k => sibylref21_round.j0 k neg (U l) e rest ((size (val l) - 63 : Nat) : Int)) ((signedW neg (rn (2 * val l + rest.toNat) (e - 1)) : Nat) : Int) := by
  obtain ⟨n, hn⟩ : ∃ n, val l = n := ⟨_, rfl⟩
  obtain ⟨s, hs⟩ : ∃ s, size n - 63 = s := ⟨_, rfl⟩
  have hn0 : n ≠ 0 := fun h => by rw [hn, h] at h63; simp [size] at h63
  rw [hn, hs]
  rw [hn] at h63 hsz he1
  have hlt := size_lt n
  have hge := size_ge hn0
  have hq1 : n / 2 ^ s < 2 ^ 63 := by
    rw [Nat.div_lt_iff_lt_mul (Nat.two_pow_pos _), ← Nat.pow_add, show 63 + s = size n by omega]; exact hlt
  have hq2 : 2 ^ 62 ≤ n / 2 ^ s := by
    rw [Nat.le_div_iff_mul_le (Nat.two_pow_pos _), ← Nat.pow_add, show 62 + s = size n - 1 by omega]; exact hge
  have hqn : n / 2 ^ s ≤ n := Nat.div_le_self _ _
  have hmul : n / 2 ^ s * 2 ^ s ≤ n := Nat.div_mul_le_self _ _
  have hdm := Nat.div_add_mod n (2 ^ s)
  have hml : (norm (n / 2 ^ s)).length ≤ l.length := norm_len_le hL (by rw [hn]; exact hqn)
  have hml2 : (norm (n / 2 ^ s * 2 ^ s)).length ≤ l.length := norm_len_le hL (by rw [hn]; exact hmul)
  have hsh := shr_ev hL (by omega) (n := s) (by omega)
  rw [hn] at hsh
  have hsl := shl_ev (lim_norm (n / 2 ^ s)) (by omega) (n := s) (by omega)
  rw [val_norm] at hsl
  have hcm := cmp_ev (lim_norm (n / 2 ^ s * 2 ^ s)) hL (by omega) (by omega)
  rw [val_norm, hn] at hcm
  -- what is handed to Join
  have join_of : ∀ rr : Bool, ((rr = true) ↔ (rest = true ∨ n % 2 ^ s ≠ 0)) → Ev (fun k => sibylref21_round.j1 k neg e rr (s : Int) (U (norm (n / 2 ^ s)))) ((signedW neg (rn (2 * n + rest.toNat) (e - 1)) : Nat) : Int) := by
    intro rr hrr
    refine Ev.step (f := fun k => sibylref21_round.l0 k neg e rr (s : Int) (U (norm (n / 2 ^ s))) 0 (((norm (n / 2 ^ s)).length : Int) - 1)) (fun k => ?_) ?_
    · simp only [sibylref21_round.j1, U_length]
      rw [w64 (by omega) (by omega)]
    · have hst : sticky (2 * n + rest.toNat) (s + 1) = 2 * (n / 2 ^ s) + rr.toNat := by
        unfold sticky
        have hb : rest.toNat ≤ 1 := by cases rest <;> decide
        have a1 : (2 * n + rest.toNat) / 2 = n := by omega
        have a2 : (2 * n + rest.toNat) % 2 = rest.toNat := by omega
        rw [Nat.pow_succ, Nat.mul_comm (2 ^ s), ← Nat.div_div_eq_div_mul, a1, Nat.mod_mul, a1, a2]
        congr 1
        cases rr
        · have hno : ¬ (rest = true ∨ n % 2 ^ s ≠ 0) := fun h => by have := hrr.2 h; cases this
          have h1 : rest = false := by cases rest; rfl; exact absurd (.inl rfl) hno
          have h2 : n % 2 ^ s = 0 := Decidable.byContradiction fun h => hno (.inr h)
          rw [h1, h2]; rfl
        · rcases hrr.1 rfl with h1 | h1
          · rw [h1]; simp <;> omega
          · have : (rest.toNat + 2 * (n % 2 ^ s) != 0) = true := by simp; omega
            rw [this]
      have hbig : 2 ^ 54 ≤ (2 * n + rest.toNat) / 2 ^ (s + 1) := by
        have hb : rest.toNat ≤ 1 := by cases rest <;> decide
        rw [Nat.pow_succ 2 s, Nat.mul_comm (2 ^ s), ← Nat.div_div_eq_div_mul, show (2 * n + rest.toNat) / 2 = n by omega]
        omega
      have hrn := rn_sticky (e - 1) hbig
      rw [hst] at hrn
      have hb2 : rr.toNat ≤ 1 := by cases rr <;> decide
      have hj := join_ev (neg := neg) (man := 2 * (n / 2 ^ s) + rr.toNat) (exp := e - 1 + ((s + 1 : Nat) : Int) - 1) (by omega) (by omega) (by omega) (by omega)
      rw [hrn] at hj
      have hv : val (norm (n / 2 ^ s)) = n / 2 ^ s := val_norm _
      have := man_loop (lim_norm (n / 2 ^ s)) (by omega) (by rw [hv]; omega) (neg := neg) (e := e) (rest := rr) (s := (s : Int)) (r := ((signedW neg (rn (2 * n + rest.toNat) (e - 1)) : Nat) : Int)) (by
        rw [hv]
        have hw : wrap64 ((wrap64 (e + (s : Int))) - 1) = e - 1 + ((s + 1 : Nat) : Int) - 1 := by rw [w64 (x := e + (s : Int)) (by omega) (by omega), w64 (by omega) (by omega)]; omega
        rw [hw]
        cases rr
        · refine Ev.congr (fun k => if_neg (by decide)) ?_
          exact Ev.bind hj (Ev.now _)
        · refine Ev.congr (fun k => if_pos rfl) ?_
          exact Ev.bind hj (Ev.now _)) (norm (n / 2 ^ s)).length (Nat.le_refl _)
      rw [List.drop_length] at this
      exact this
  refine Ev.step (f := fun k => (sibylref01_Shr.f k (U l) (s : Int)).bind fun t404 => ((sibylref01_Shl.f k t404 (s : Int)).bind fun t407 => ((sibylref01_Cmp.f k t407 (U l)).bind fun t410 => (if t410 = 0 then (sibylref21_round.j1 k neg e rest (s : Int) t404) else (sibylref21_round.j1 k neg e true (s : Int) t404))))) (fun k => by simp only [sibylref21_round.j0]) ?_
  refine Ev.bind hsh (Ev.bind hsl (Ev.bind hcm ?_))
  by_cases hz : n % 2 ^ s = 0
  · have he : n / 2 ^ s * 2 ^ s = n := by rw [Nat.mul_comm]; omega
    refine Ev.congr (fun k => if_pos (by rw [he, if_neg (by omega), if_neg (by omega)])) (join_of rest ?_)
    simp [hz]
  · have hlt2 : n / 2 ^ s * 2 ^ s < n := by rw [Nat.mul_comm]; omega
    refine Ev.congr (fun k => if_neg (by rw [if_pos hlt2]; decide)) (join_of true ?_)
    simp [hz]

/-- of 63 bits or more, with a rest -/
theorem round_ev {l : List Nat} (hL : Lim l) (hlen : l.length ≤ 20000) (h63 : 63 ≤ size (val l)) (hsz : size (val l) ≤ 900000) {neg rest : Bool} {e : Int} (he0 : -2000 ≤ e) (he1 : e + size (val l) ≤ 2000) :
    Ev (fun k => sibylref21_round.f k neg (U l) e rest) ((signedW neg (rn (2 * val l + rest.toNat) (e - 1)) : Nat) : Int) := by
  unfold sibylref21_round.f
  refine Ev.bind (bits_ev hL (by omega)) ?_
  have hw : wrap64 (((size (val l) : Nat) : Int) - 63) = ((size (val l) - 63 : Nat) : Int) := by rw [w64 (by omega) (by omega)]; omega
  rw [hw]
  refine Ev.congr (fun k => if_neg (by omega)) ?_
  exact round_j0 hL (by omega) h63 hsz he0 he1
/-- of any size, without a rest -/
theorem round_exact {l : List Nat} (hL : Lim l) (hlen : l.length ≤ 20000) (h0 : val l ≠ 0) (hsz : size (val l) ≤ 900000) {neg : Bool} {e : Int} (he0 : -1900 ≤ e) (he1 : e + size (val l) ≤ 2000) :
    Ev (fun k => sibylref21_round.f k neg (U l) e false) ((signedW neg (rn (val l) e) : Nat) : Int) := by
  by_cases h63 : 63 ≤ size (val l)
  · have h := round_ev (neg := neg) (rest := false) (e := e) hL hlen h63 hsz (by omega) he1
    have e1 : rn (2 * val l + false.toNat) (e - 1) = rn (val l) e := by
      have := rn_shift (val l) 1 (e - 1)
      rw [show e - 1 + ((1 : Nat) : Int) = e by omega] at this
      rw [← this]
      congr 1
      show 2 * val l + 0 = val l * 2 ^ 1
      omega
    rw [e1] at h
    exact h
  · obtain ⟨t, ht⟩ : ∃ t, 63 - size (val l) = t := ⟨_, rfl⟩
    have hs1 : 1 ≤ size (val l) := by unfold size; rw [if_neg h0]; omega
    unfold sibylref21_round.f
    refine Ev.bind (bits_ev hL (by omega)) ?_
    have hw : wrap64 (((size (val l) : Nat) : Int) - 63) = -(t : Int) := by rw [w64 (by omega) (by omega)]; omega
    rw [hw]
    have hw2 : wrap64 (-(-(t : Int))) = (t : Int) := by rw [w64 (by omega) (by omega)]; omega
    have hw3 : wrap64 (e + -(t : Int)) = e - (t : Int) := by rw [w64 (by omega) (by omega)]; omega
    rw [hw2, hw3]
    refine Ev.congr (fun k => if_pos (by omega)) ?_
    refine Ev.bind (shl_ev hL (by omega) (n := t) (by omega)) ?_
    have hv : val (norm (val l * 2 ^ t)) = val l * 2 ^ t := val_norm _
    have hszm : size (val l * 2 ^ t) = 63 := by rw [size_mul h0]; omega
    have hnl : (norm (val l * 2 ^ t)).length ≤ 2 := norm_length_le (by
      have := size_lt (val l * 2 ^ t)
      rw [hszm] at this
      exact Nat.lt_of_lt_of_le this (by decide))
    have h := round_j0 (neg := neg) (rest := false) (e := e - (t : Int)) (lim_norm (val l * 2 ^ t)) (by omega) (by rw [hv]; omega) (by rw [hv]; omega) (by omega) (by rw [hv]; omega)
    rw [hv, hszm] at h
    have e1 : rn (2 * (val l * 2 ^ t) + false.toNat) (e - (t : Int) - 1) = rn (val l) e := by
      have := rn_shift (val l) (t + 1) (e - (t : Int) - 1)
      rw [show e - (t : Int) - 1 + ((t + 1 : Nat) : Int) = e by omega] at this
      rw [← this]
      congr 1
      show 2 * (val l * 2 ^ t) + 0 = val l * 2 ^ (t + 1)
      rw [Nat.pow_succ, Nat.add_zero, Nat.mul_comm 2, Nat.mul_assoc]
    rw [e1] at h
    exact h
end Go.Proofs.Ytjppanekddljbaa.Lb
