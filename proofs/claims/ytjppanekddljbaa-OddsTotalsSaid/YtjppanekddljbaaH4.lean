/- odds.good: that the Go code answers goodB. -/
import Derived.Test.YtjppanekddljbaaH3
namespace Go.Proofs.Ytjppanekddljbaa.Pr
set_option linter.unusedVariables false
set_option linter.unusedSimpArgs false
open Go.RowKit Go.Proofs.Ytjppanekddljbaa.H Go.Proofs.YtjppanekddljbaaW.PrintWords Go.Proofs.YtjppanekddljbaaW.PrintLast Go.Proofs.YtjppanekddljbaaW.PrintMore

/-! odds.good and what it calls: slices.ContainsFunc, slices.IndexFunc at a function literal -/
set_option maxHeartbeats 1000000 in
theorem big_calls (a b : Int) (w : World) :
    Calls Try.prog 57 #[.agg #[.int .i64 a, .int .i64 b]] w fun e w' => e = .returned (.bool (decide (4096 < a))) ∧ Below w.heap.size w w' := by
  go_enter Try.func57, Try.ntmps57
  go_wp2
  go_ret
  exact ⟨rfl, below_alloc (Below.refl _ _) _⟩

def SomeIndex (l : List S68) (w : World) (e : Ending) (w' : World) : Prop :=
  ∃ i : Int, e = .returned (.int .i64 i) ∧ (0 ≤ i ↔ ∃ j : Nat, j < l.length ∧ 4096 < (rd_T68 l j).f0) ∧ Below w.heap.size w w'

set_option maxHeartbeats 1000000 in
theorem index_calls (A : Option Addr) (c : Nat) (l : List S68) (w : World) (hr : Kd.C k68 w A l.length l) (hc : l.length ≤ c) :
    Calls Try.prog 84 #[.slice A l.length c, .func (.func 57) #[] #[]] w (SomeIndex l w) := by
  have hu68 := Try.underlying68
  have hmax : l.length ≤ 9223372036854775807 := hr.2.1
  have HR := Aside0.mk hr
  clear hr
  go_enter Try.func84, Try.ntmps84
  go_wp2
  go_loopg [8] l.length (fun kq v8 w' => ∃ i : Nat, v8 = .int .i64 i ∧ kq = l.length - i ∧ i ≤ l.length ∧ Aside0 (∀ j : Nat, j < i → ¬ 4096 < (rd_T68 l j).f0) ∧ Aside0 (Below w.heap.size w w'))
  case atStart => exact ⟨0, rfl, by omega, by omega, ⟨fun j hj => by omega⟩, ⟨Below.refl _ _⟩⟩
  case round =>
    obtain ⟨i, rfl, hk, hi, HN, HB⟩ := hrel
    by_cases hlt : i < l.length
    · obtain ⟨ad, e, hx0, hx1⟩ := at_T68 HR.out (i : Int) (by omega) (by omega)
      cases e
      replace hx0 := (HB.out.cell (World.block_lt_of_cell? w _ hx0)).trans hx0
      replace hx1 := (HB.out.cell (World.block_lt_of_cell? w _ hx1)).trans hx1
      simp only [Int.toNat_natCast] at hx0 hx1
      have HK := Aside0.mk hk
      clear hk
      by_cases hb : 4096 < (rd_T68 l i).f0
      · have hbb : decide (4096 < (rd_T68 l i).f0) = true := decide_eq_true hb
        have HBIG := Aside0.mk hb
        clear hb
        go_wp2_with (go_at_call 57; refine (big_calls _ _ _).mono ?_; rintro e w' ⟨rfl, hb1⟩; have HB1 := Aside0.mk hb1; clear hb1)
        go_ret
        exact ⟨i, rfl, ⟨fun _ => ⟨i, hlt, HBIG.out⟩, fun _ => by omega⟩, below_then HB.out HB.out.size HB1.out⟩
      · have hbb : decide (4096 < (rd_T68 l i).f0) = false := decide_eq_false hb
        have HSM := Aside0.mk hb
        clear hb
        go_wp2_with (go_at_call 57; refine (big_calls _ _ _).mono ?_; rintro e w' ⟨rfl, hb1⟩; have HB1 := Aside0.mk hb1; clear hb1)
        go_roundg (l.length - (i + 1))
        case measure => have := HK.out; omega
        case rel =>
          exact ⟨i + 1, by go_num, rfl, by omega, ⟨fun j hj => by
            by_cases e : j = i
            · subst e; exact HSM.out
            · exact HN.out j (by omega)⟩, ⟨below_then HB.out HB.out.size HB1.out⟩⟩
    · have HK := Aside0.mk hk
      clear hk
      go_wp2
      go_ret
      exact ⟨-1, rfl, ⟨fun h => by omega, fun ⟨j, hj, hb⟩ => by have := HN.out j (by omega); omega⟩, HB.out⟩

def BigB (l : List S68) : Bool := l.any fun p => decide (4096 < p.f0)
theorem rd68 (l : List S68) (j : Nat) (h : j < l.length) : rd_T68 l j = l[j] := by simp [rd_T68, List.getD, h]
theorem bigB_iff (l : List S68) : (∃ j : Nat, j < l.length ∧ 4096 < (rd_T68 l j).f0) ↔ BigB l = true := by
  unfold BigB
  rw [List.any_eq_true]
  constructor
  · rintro ⟨j, hj, h⟩
    exact ⟨l[j], List.getElem_mem hj, by rw [rd68 l j hj] at h; simpa using h⟩
  · rintro ⟨p, hp, h⟩
    obtain ⟨j, hj, rfl⟩ := List.getElem_of_mem hp
    exact ⟨j, hj, by rw [rd68 l j hj]; simpa using h⟩

set_option maxHeartbeats 1000000 in
theorem contains_calls (A : Option Addr) (c : Nat) (l : List S68) (w : World) (hr : Kd.C k68 w A l.length l) (hc : l.length ≤ c) :
    Calls Try.prog 56 #[.slice A l.length c, .func (.func 57) #[] #[]] w fun e w' => e = .returned (.bool (BigB l)) ∧ Below w.heap.size w w' := by
  have HR := Aside0.mk hr
  have HC := Aside0.mk hc
  clear hr hc
  go_enter Try.func56, Try.ntmps56
  go_wp2_with (go_at_call 84; refine (index_calls A c l _ HR.out HC.out).mono ?_; rintro e w' ⟨i, rfl, hi, hb1⟩; have HI := Aside0.mk hi; have HB1 := Aside0.mk hb1; clear hb1 hi)
  go_ret
  refine ⟨?_, HB1.out⟩
  have h := HI.out.trans (bigB_iff l)
  cases hb : BigB l
  · rw [hb] at h
    have : ¬ 0 ≤ i := fun h0 => absurd (h.1 h0) (by simp)
    simp [this]
  · rw [hb] at h
    have : 0 ≤ i := h.2 rfl
    simp [this]

/-! what oracle.Of answers -/
def okP (p : S68) : Bool := decide (2 ≤ p.f0 ∧ 0 ≤ p.f1 ∧ p.f1 < p.f0)
theorem of_tells (l : List S68) (hl : l.length ≤ 8796093022208) (d : Nat) : ∀ (k : Nat) (i : Nat) (x : List Int), i ≤ l.length → l.length - i = d → d < k → x.length ≤ i →
    ∃ r e, oracle_Of.l0 k x l (l.length : Int) (i : Int) = some (r, e) ∧ (e = 0 ∨ e = 2) ∧ (e = 0 ↔ (l.drop i).all okP = true) := by
  induction d with
  | zero =>
    intro k i x hi hd hk hx
    obtain ⟨k, rfl⟩ : ∃ m, k = m + 1 := ⟨k - 1, by omega⟩
    refine ⟨x, 0, ?_, .inl rfl, ?_⟩
    · simp only [oracle_Of.l0]; rw [if_neg (by omega)]
    · rw [List.drop_of_length_le (by omega)]; simp
  | succ d ih =>
    intro k i x hi hd hk hx
    obtain ⟨k, rfl⟩ : ∃ m, k = m + 1 := ⟨k - 1, by omega⟩
    have hlt : i < l.length := by omega
    have hdrop : l.drop i = l[i] :: l.drop (i + 1) := by rw [List.drop_eq_getElem_cons hlt]
    have hrd := rd68 l i hlt
    simp only [oracle_Of.l0]
    rw [if_pos (by omega), if_pos (by omega), if_pos (by omega)]
    by_cases h1 : (rd_T68 l i).f0 < 2
    · rw [if_pos h1]
      refine ⟨_, _, rfl, .inr rfl, ?_⟩
      rw [hdrop, List.all_cons]
      have : okP l[i] = false := by unfold okP; rw [← hrd]; simp; omega
      simp [this]
    · rw [if_neg h1]
      by_cases h2 : (rd_T68 l i).f1 < 0
      · rw [if_pos h2]
        refine ⟨_, _, rfl, .inr rfl, ?_⟩
        rw [hdrop, List.all_cons]
        have : okP l[i] = false := by unfold okP; rw [← hrd]; simp; omega
        simp [this]
      · rw [if_neg h2]
        by_cases h3 : (rd_T68 l i).f1 ≥ (rd_T68 l i).f0
        · rw [if_pos h3]
          refine ⟨_, _, rfl, .inr rfl, ?_⟩
          rw [hdrop, List.all_cons]
          have : okP l[i] = false := by unfold okP; rw [← hrd]; simp; omega
          simp [this]
        · rw [if_neg h3, if_pos (by omega)]
          have hw : wrap64 ((i : Int) + 1) = ((i + 1 : Nat) : Int) := by unfold wrap64; omega
          rw [hw]
          obtain ⟨r, e, he, h4, h5⟩ := ih k (i + 1) (x ++ [(rd_T68 l i).f1]) (by omega) (by omega) (by omega) (by simp; omega)
          refine ⟨r, e, he, h4, ?_⟩
          rw [h5, hdrop, List.all_cons]
          have : okP l[i] = true := by unfold okP; rw [← hrd]; simp; omega
          simp [this]
theorem of_runs (l : List S68) (hl : l.length ≤ 8796093022208) : ∃ r e, oracle_Of.f (l.length + 1) l = some (r, e) ∧ (e = 0 ∨ e = 2) ∧ (e = 0 ↔ l.all okP = true) := by
  obtain ⟨r, e, h, h1, h2⟩ := of_tells l hl l.length (l.length + 1) 0 [] (by omega) (by omega) (by omega) (by simp)
  refine ⟨r, e, ?_, h1, by simpa using h2⟩
  rw [oracle_Of.f, if_pos hl]
  exact h

def goodB (l : List S68) : Bool := l.all okP && !BigB l
def odds_good.f (_k : Nat) (l0 : List S68) : Option Bool := if l0.length ≤ 8796093022208 then some (goodB l0) else none
theorem odds_good.mono : ∀ a0 k, LeO (odds_good.f k a0) (odds_good.f (k + 1) a0) := fun _ _ => LeO.refl _
set_option maxHeartbeats 1000000 in
theorem odds_good.calls (k : Nat) (A0 : Option Addr) (c0 : Nat) (l0 : List S68) (r : Bool) (w : World) (hr0 : Kd.C k68 w A0 l0.length l0) (hc0 : l0.length ≤ c0) (h : odds_good.f k l0 = some r) :
    Calls Try.prog 27 #[.slice A0 l0.length c0] w fun e w' => e = .returned (.bool r) ∧ Below w.heap.size w w' := by
  have hbig : l0.length ≤ 8796093022208 := by
    refine Decidable.byContradiction fun hn => ?_
    rw [odds_good.f, if_neg hn] at h
    exact absurd h (by simp)
  rw [odds_good.f, if_pos hbig] at h
  have HE := Aside0.mk (Option.some.inj h)
  have HR := Aside0.mk hr0
  have HC := Aside0.mk hc0
  clear hr0 h hc0
  obtain ⟨x, e, ho, h1, h2⟩ := of_runs l0 hbig
  have HO := Aside0.mk ho
  clear ho hbig
  rcases h1 with rfl | rfl
  · have H2 := Aside0.mk (h2.1 rfl)
    clear h2
    go_enter Try.func27, Try.ntmps27
    go_wp2_with (first
      | (go_at_call 55; refine (oracle_Of.calls _ A0 c0 l0 x 0 _ HR.out HC.out HO.out).mono ?_; rintro e w1 ⟨v0, rfl, hr1, hb1⟩; have HB1 := Aside0.mk hb1; clear hb1 hr1)
      | (go_at_call 56; refine (contains_calls A0 c0 l0 _ (Kd.C_below HR.out HB1.out) HC.out).mono ?_; rintro e w2 ⟨rfl, hb2⟩; have HB2 := Aside0.mk hb2; clear hb2))
    go_ret
    refine ⟨?_, below_then HB1.out HB1.out.size HB2.out⟩
    rw [← HE.out, goodB, H2.out]
    simp
  · have H2 := Aside0.mk (show l0.all okP = false from Bool.eq_false_iff.mpr fun hh => absurd (h2.2 hh) (by decide))
    clear h2
    go_enter Try.func27, Try.ntmps27
    go_wp2_with (first
      | (go_at_call 55; refine (oracle_Of.calls _ A0 c0 l0 x 2 _ HR.out HC.out HO.out).mono ?_; rintro e w1 ⟨v0, rfl, hr1, hb1⟩; have HB1 := Aside0.mk hb1; clear hb1 hr1))
    go_ret
    refine ⟨?_, HB1.out⟩
    rw [← HE.out, goodB, H2.out]
    simp
end Go.Proofs.Ytjppanekddljbaa.Pr
