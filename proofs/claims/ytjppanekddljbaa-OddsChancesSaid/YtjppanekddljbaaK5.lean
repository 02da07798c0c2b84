/- OddsChances returns true whatever the input, and the input reads as it did. Conditions: none but those of the given row (part 5) -/
import Derived.Test.YtjppanekddljbaaK4
set_option linter.unusedVariables false
set_option linter.unusedSimpArgs false
/- The reference's Shares and Chance, of any weights: what the Go code computes. -/
namespace Go.Proofs.Ytjppanekddljbaa.Lb
open Go.RowKit Go.Proofs.Ytjppanekddljbaa.Pr Go.Proofs.YtjppanekddljbaaW.PrintWords Go.Proofs.YtjppanekddljbaaW.PrintLast Go.Proofs.YtjppanekddljbaaW.PrintMore
open Go.Proofs.Ytjppanekddljbaa.Fl Ieee Go.Proofs.Ytjppanekddljbaa.H
theorem range_snoc {β : Type} (f : Nat → β) (i : Nat) : (List.range (i + 1)).map f = (List.range i).map f ++ [f i] := by
  rw [List.range_succ, List.map_append]; rfl
theorem range_getD (f : Nat → Nat) {n i : Nat} (h : i < n) : ((List.range n).map f).getD i 0 = f i := by simp [List.getD, h]
/-- the second loop: the shares -/
theorem shares_l1 {W : Nat → Nat} (hW : ∀ i, W i ≤ INF) {n : Nat} (h1 : 1 ≤ n) (h2 : n ≤ 4096) (d : Nat) : ∀ j, j ≤ n → n - j = d →
    Ev (fun k => sibylref21_Shares.l1 k (n : Int) (U ((List.range n).map W)) (U ((List.range j).map (shareW W n))) ((sumW W n : Nat) : Int) ((cntW W n : Nat) : Int) (j : Int)) (U ((List.range n).map (shareW W n)), (0 : Int)) := by
  have hc := cntW_le W n
  have hcI := cntW_le W n
  induction d with
  | zero =>
    intro j hj hd
    obtain rfl : j = n := by omega
    refine Ev.step (f := fun _ => some (U ((List.range j).map (shareW W j)), (0 : Int))) (fun k => ?_) (Ev.now _)
    simp only [sibylref21_Shares.l1]
    rw [if_neg (by omega)]
  | succ d ih =>
    intro j hj hd
    have hlt : j < n := by omega
    have hnext := ih (j + 1) (by omega) (by omega)
    rw [range_snoc, U_append, U_one] at hnext
    have hw1 : wrap64 ((j : Int) + 1) = ((j + 1 : Nat) : Int) := by unfold wrap64; omega
    have hlen : ((U ((List.range j).map (shareW W n))).length : Int) < 17592186044416 := by rw [U_length]; simp; omega
    have hlen' : (U ((List.range j).map (shareW W n))).length < 17592186044416 := by omega
    obtain ⟨S, hS⟩ : ∃ S, U ((List.range j).map (shareW W n)) = S := ⟨_, rfl⟩
    rw [hS] at hnext hlen' ⊢
    clear hS hlen
    have hrd : rd (U ((List.range n).map W)) (j : Int) = ((W j : Nat) : Int) := by rw [rd_U, range_getD _ hlt]
    have hUl : (U ((List.range n).map W)).length = n := by rw [U_length]; simp
    have hnI := sumW_le hW n
    have hsn : sumW W n < 18446744073709551616 := by unfold INF at hnI; omega
    have hone := int_ev (n := 1) (by omega) (by omega)
    have nat1 : natF 1 = ONE := by rw [natF_rn, rn_one]
    rw [nat1] at hone
    by_cases hcnt : 0 < cntW W n
    · refine Ev.step (f := _) (fun k => by simp only [sibylref21_Shares.l1]; rfl) ?_
      refine Ev.congr (fun k => by rw [if_pos (show (j : Int) < (n : Int) by omega), if_pos (show ((cntW W n : Nat) : Int) > 0 by omega), if_pos (show (0 : Int) ≤ (j : Int) by omega), if_pos (by rw [hUl]; omega), hrd]) ?_
      by_cases hbig : W j = INF
      · have hb : (((W j : Nat) : Int) == 9218868437227405312) = true := beq_iff_eq.mpr (by rw [hbig]; rfl)
        have hsh : shareW W n j = fdivT ONE (natF (cntW W n)) := by unfold shareW; rw [if_pos hcnt, if_pos hbig]
        rw [hsh] at hnext
        rw [hb]
        refine Ev.step (f := _) (fun k => by simp only [sibylref21_Shares.j3]; rfl) ?_
        refine Ev.congr (fun k => if_pos trivial) ?_
        have hnp := natF_pos hcnt (by omega)
        refine Ev.bind hone (Ev.bind (int_ev hcnt (by omega)) (Ev.bind (div_ev (by decide) hnp.1 hnp.2) ?_))
        refine Ev.congr (fun k => if_pos hlen') ?_
        rw [hw1]
        exact hnext
      · have hb : (((W j : Nat) : Int) == 9218868437227405312) = false := beq_eq_false_iff_ne.mpr (by unfold INF at hbig; omega)
        have hsh : shareW W n j = 0 := by unfold shareW; rw [if_pos hcnt, if_neg hbig]
        rw [hsh] at hnext
        rw [hb]
        refine Ev.step (f := _) (fun k => by simp only [sibylref21_Shares.j3]; rfl) ?_
        refine Ev.congr (fun k => by rw [if_neg (show ¬ (false = true) by decide), if_pos (show ((cntW W n : Nat) : Int) > 0 by omega), if_pos hlen', hw1]) ?_
        exact hnext
    · have hz : ¬ (((cntW W n : Nat) : Int) > 0) := by omega
      refine Ev.step (f := _) (fun k => by simp only [sibylref21_Shares.l1]; rfl) ?_
      refine Ev.congr (fun k => by rw [if_pos (show (j : Int) < (n : Int) by omega), if_neg hz]) ?_
      refine Ev.step (f := _) (fun k => by simp only [sibylref21_Shares.j3]; rfl) ?_
      refine Ev.congr (fun k => by rw [if_neg (show ¬ (false = true) by decide), if_neg hz]) ?_
      by_cases hs0 : sumW W n = 0
      · have hsh : shareW W n j = fdivT ONE (natF n) := by unfold shareW; rw [if_neg hcnt, if_pos hs0]
        rw [hsh] at hnext
        refine Ev.congr (fun k => if_pos (by rw [hs0]; rfl)) ?_
        have hnp := natF_pos (n := n) (by omega) h2
        refine Ev.bind hone (Ev.bind (int_ev h1 h2) (Ev.bind (div_ev (by decide) hnp.1 hnp.2) ?_))
        refine Ev.congr (fun k => if_pos hlen') ?_
        rw [hw1]
        exact hnext
      · have hsh : shareW W n j = fdivT (W j) (sumW W n) := by unfold shareW; rw [if_neg hcnt, if_neg hs0]
        rw [hsh] at hnext
        have hne : W j ≠ INF := fun h => hcnt (cntW_pos h n hlt)
        have hwj := hW j
        refine Ev.congr (fun k => by rw [if_neg (show ¬ (((sumW W n : Nat) : Int) = 0) by omega), if_pos (show (0 : Int) ≤ (j : Int) by omega), if_pos (by rw [hUl]; omega), hrd]) ?_
        refine Ev.bind (div_ev (by omega) hnI hs0) ?_
        refine Ev.congr (fun k => if_pos hlen') ?_
        rw [hw1]
        exact hnext
theorem addC_fadd {x y : Nat} (hx : x ≤ INF) (hy : y ≤ INF) : addC x y = faddT x y := by
  have h := (faddT_ok hx hy).1
  unfold addC
  rw [h]
  rfl
/-- the first loop: worths, their sum, the infinite ones -/
theorem shares_l0 {l : List Nat} (hl : ∀ x ∈ l, x < 18446744073709551616) (hlen : l.length ≤ 4611686018427387904) {turn : Int} (ht : turn ≤ 9223372036854775807) {n : Nat} (h1 : 1 ≤ n) (h2 : n ≤ 4096) {W : Nat → Nat} (hWe : wOf l turn = W) (d : Nat) : ∀ i, i ≤ n → n - i = d →
    Ev (fun k => sibylref21_Shares.l0 k (U l) turn (n : Int) (U ((List.range i).map W)) ((sumW W i : Nat) : Int) ((cntW W i : Nat) : Int) (i : Int)) (U ((List.range n).map (shareW W n)), (0 : Int)) := by
  have hW : ∀ i, W i ≤ INF := by rw [← hWe]; exact wOf_le l turn
  induction d with
  | zero =>
    intro i hi hd
    obtain rfl : i = n := by omega
    refine Ev.step (f := fun k => sibylref21_Shares.l1 k (i : Int) (U ((List.range i).map W)) (U ((List.range 0).map (shareW W i))) ((sumW W i : Nat) : Int) ((cntW W i : Nat) : Int) ((0 : Nat) : Int)) (fun k => ?_) (shares_l1 hW h1 h2 i 0 (by omega) (by omega))
    simp only [sibylref21_Shares.l0]
    rw [if_neg (by omega)]
    rfl
  | succ d ih =>
    intro i hi hd
    have hlt : i < n := by omega
    have hnext := ih (i + 1) (by omega) (by omega)
    rw [range_snoc, U_append, U_one] at hnext
    have hw1 : wrap64 ((i : Int) + 1) = ((i + 1 : Nat) : Int) := by unfold wrap64; omega
    have hcl := cntW_le W i
    have hlen' : (U ((List.range i).map W)).length < 17592186044416 := by rw [U_length]; simp; omega
    obtain ⟨S, hS⟩ : ∃ S, U ((List.range i).map W) = S := ⟨_, rfl⟩
    rw [hS] at hnext hlen' ⊢
    clear hS
    have hat : sibylref10_At.f (U l) turn (i : Int) = some ((atF l turn i : Nat) : Int) := at_ev l turn i hlen ht (by omega)
    have hwo : sibylref10_Worth.f ((atF l turn i : Nat) : Int) = some ((W i : Nat) : Int) := by
      rw [worth_ev (atF_lt hl _ _), ← hWe]; rfl
    have hsI := sumW_le hW i
    have hwI := hW i
    have had := add_ev (x := sumW W i) (y := W i) (by unfold INF at hsI; omega) (by unfold INF at hwI; omega)
    rw [addC_fadd hsI hwI] at had
    have hsum : sumW W (i + 1) = faddT (sumW W i) (W i) := rfl
    rw [hsum] at hnext
    refine Ev.step (f := _) (fun k => by simp only [sibylref21_Shares.l0]; rfl) ?_
    refine Ev.congr (fun k => by rw [if_pos (show (i : Int) < (n : Int) by omega), hat, Option.bind_some, hwo, Option.bind_some, if_pos hlen', Option.bind_some]) ?_
    refine Ev.bind had ?_
    by_cases hbig : W i = INF
    · have hc : cntW W (i + 1) = cntW W i + 1 := by rw [cntW, if_pos hbig]
      rw [hc] at hnext
      have hw2 : wrap64 (((cntW W i : Nat) : Int) + 1) = ((cntW W i + 1 : Nat) : Int) := by unfold wrap64; omega
      refine Ev.congr (fun k => by rw [if_pos (show ((W i : Nat) : Int) = 9218868437227405312 by rw [hbig]; rfl), hw1, hw2]) ?_
      exact hnext
    · have hc : cntW W (i + 1) = cntW W i := by rw [cntW, if_neg hbig]
      rw [hc] at hnext
      refine Ev.congr (fun k => by rw [if_neg (show ¬ ((W i : Nat) : Int) = 9218868437227405312 by unfold INF at hbig; omega), hw1]) ?_
      exact hnext
theorem shares_ev {l : List Nat} (hl : ∀ x ∈ l, x < 18446744073709551616) (hlen : l.length ≤ 4611686018427387904) {turn : Int} (ht0 : 0 ≤ turn) (ht : turn ≤ 9223372036854775807) {n : Nat} (h1 : 1 ≤ n) (h2 : n ≤ 4096) :
    Ev (fun k => sibylref21_Shares.f k (U l) turn (n : Int)) (U ((List.range n).map (shareW (wOf l turn) n)), (0 : Int)) := by
  refine Ev.congr (f := fun k => sibylref21_Shares.j0 k (U l) turn (n : Int) false) (fun k => ?_) ?_
  · unfold sibylref21_Shares.f
    rw [if_neg (by omega), if_neg (by omega), decide_eq_false (by omega)]
  · refine Ev.step (f := fun k => sibylref21_Shares.l0 k (U l) turn (n : Int) (U ((List.range 0).map (wOf l turn))) ((sumW (wOf l turn) 0 : Nat) : Int) ((cntW (wOf l turn) 0 : Nat) : Int) ((0 : Nat) : Int)) (fun k => ?_) (shares_l0 hl hlen ht h1 h2 rfl n 0 (by omega) (by omega))
    simp only [sibylref21_Shares.j0]
    rw [if_neg (by decide)]
    rfl
theorem chanceTo_le {l : List Nat} {log : List S68} (hg : goodB log = true) : ∀ i, i ≤ log.length → ∃ c, chanceTo l log i = some c ∧ c ≤ ONE
  | 0, _ => ⟨ONE, rfl, Nat.le_refl _⟩
  | i + 1, h => by
    obtain ⟨c, hc, hle⟩ := chanceTo_le hg i (by omega)
    obtain ⟨p1, p2, p3, p4⟩ := goodB_at hg i (by omega)
    have hs := shareW_le_one (w := wOf l i) (wOf_le l i) (of := pickOf log i) (i := pickTook log i) (by unfold pickOf; omega) (by unfold pickOf pickTook; omega)
    obtain ⟨m1, m2⟩ := mul_le_one hle hs
    exact ⟨_, by rw [chanceTo, hc, Option.bind_some, m1], m2⟩
theorem chance_loop {l : List Nat} (hl : ∀ x ∈ l, x < 18446744073709551616) (hlen : l.length ≤ 4611686018427387904) {log : List S68} (hlog : log.length ≤ 8796093022208) (hg : goodB log = true) {r : Nat} (hr : chanceTo l log log.length = some r) (d : Nat) : ∀ i c, i ≤ log.length → log.length - i = d → chanceTo l log i = some c →
    Ev (fun k => sibylref21_Chance.l0 k (U l) log (c : Int) (i : Int)) ((r : Int), (0 : Int)) := by
  induction d with
  | zero =>
    intro i c hi hd hc
    obtain rfl : i = log.length := by omega
    obtain rfl : c = r := by rw [hr] at hc; exact (Option.some.inj hc).symm
    refine Ev.step (f := fun _ => some ((c : Int), (0 : Int))) (fun k => ?_) (Ev.now _)
    simp only [sibylref21_Chance.l0]
    rw [if_neg (by omega)]
  | succ d ih =>
    intro i c hi hd hc
    have hlt : i < log.length := by omega
    obtain ⟨p1, p2, p3, p4⟩ := goodB_at hg i hlt
    obtain ⟨n, hn⟩ : ∃ n : Nat, (rd_T68 log i).f0 = (n : Int) := ⟨(rd_T68 log i).f0.toNat, by omega⟩
    obtain ⟨j, hj⟩ : ∃ j : Nat, (rd_T68 log i).f1 = (j : Int) := ⟨(rd_T68 log i).f1.toNat, by omega⟩
    have e1 : pickOf log i = n := by unfold pickOf; rw [hn]; rfl
    have e2 : pickTook log i = j := by unfold pickTook; rw [hj]; rfl
    obtain ⟨c', hc', hle'⟩ := chanceTo_le (l := l) hg i (by omega)
    obtain rfl : c' = c := by rw [hc] at hc'; exact (Option.some.inj hc').symm
    have hs := shareW_le_one (w := wOf l i) (wOf_le l i) (of := n) (i := j) (by omega) (by omega)
    obtain ⟨m1, m2⟩ := mul_le_one hle' hs
    have hnx : chanceTo l log (i + 1) = some (mulT c' (shareW (wOf l i) n j)) := by rw [chanceTo, hc, Option.bind_some, e1, e2, m1]
    have hnext := ih (i + 1) _ (by omega) (by omega) hnx
    have hsh := shares_ev hl hlen (turn := (i : Int)) (by omega) (by omega) (n := n) (by omega) (by omega)
    have hI : ONE < INF := by decide
    have hmu := mul_ev (x := c') (y := shareW (wOf l i) n j) (Nat.lt_of_le_of_lt hle' hI) (Nat.lt_of_le_of_lt hs hI)
    clear hI m1 m2 hle' hs hnx hc hc' ih hr e1 e2
    have hw1 : wrap64 ((i : Int) + 1) = ((i + 1 : Nat) : Int) := by unfold wrap64; omega
    have hrd : rd (U ((List.range n).map (shareW (wOf l i) n))) (j : Int) = ((shareW (wOf l i) n j : Nat) : Int) := by rw [rd_U, range_getD _ (by omega)]
    have hUl : (U ((List.range n).map (shareW (wOf l i) n))).length = n := by rw [U_length]; simp
    refine Ev.step (f := _) (fun k => by simp only [sibylref21_Chance.l0]; rfl) ?_
    refine Ev.congr (fun k => by rw [if_pos (show (i : Int) < (log.length : Int) by omega), if_pos (show (0 : Int) ≤ (i : Int) by omega), hn, hj]) ?_
    refine Ev.bind hsh ?_
    refine Ev.congr (fun k => by rw [if_pos (show (0 : Int) ≤ (j : Int) by omega), if_pos (by rw [hUl]; omega), hrd, hw1]) ?_
    exact Ev.bind hmu hnext
theorem chance_ev {l : List Nat} (hl : ∀ x ∈ l, x < 18446744073709551616) (hlen : l.length ≤ 4611686018427387904) {log : List S68} (hlog : log.length ≤ 8796093022208) (hg : goodB log = true) {r : Nat} (hr : chanceTo l log log.length = some r) :
    Ev (fun k => sibylref21_Chance.f k (U l) log) ((r : Int), (0 : Int)) := by
  unfold sibylref21_Chance.f
  have h := good21_ev hlog
  rw [hg] at h
  refine Ev.bind h ?_
  refine Ev.congr (fun k => if_pos rfl) ?_
  refine Ev.bind (int_ev (n := 1) (by omega) (by omega)) ?_
  rw [show natF 1 = ONE by rw [natF_rn, rn_one]]
  exact chance_loop hl hlen hlog hg hr log.length 0 ONE (by omega) (by omega) rfl
theorem chance_ev_bad {l : List Nat} {log : List S68} (hlog : log.length ≤ 8796093022208) (hg : goodB log = false) :
    Ev (fun k => sibylref21_Chance.f k (U l) log) ((0 : Int), (2 : Int)) := by
  unfold sibylref21_Chance.f
  have h := good21_ev hlog
  rw [hg] at h
  refine Ev.bind h ?_
  exact Ev.congr (fun k => if_neg (by decide)) (Ev.now _)
end Go.Proofs.Ytjppanekddljbaa.Lb
/- What the kit's print wrote for these functions, taken together by wip/pick.py: each function's Lean function and that the Go code comes to it. -/
namespace Go.Proofs.Ytjppanekddljbaa.Pr
open Go.RowKit Go.Proofs.YtjppanekddljbaaW.PrintWords Go.Proofs.YtjppanekddljbaaW.PrintLast Go.Proofs.YtjppanekddljbaaW.PrintMore
attribute [local go_sem] max2_int min2_int max_two min_two max_three min_three max_four min_four
mutual
def sibylref01_Common.j1 : Nat → List Int → List Int → Int → Option (List Int)
 | 0, _, _, _ => none
 | k + 1, x5, x6, x7 => (sibylref01_Shr.f k x5 x7).bind fun t304 => ((sibylref01_Shr.f k x6 x7).bind fun t307 => (sibylref01_Common.l1 k t304 t307 x7))
def sibylref01_Common.l1 : Nat → List Int → List Int → Int → Option (List Int)
 | 0, _, _, _ => none
 | k + 1, x5, x6, x7 => if (x5.length : Int) > 0 then (sibylref01_Common.j3 k x5 x6 x7 (decide ((x6.length : Int) > 0))) else (sibylref01_Common.j3 k x5 x6 x7 false)
def sibylref01_Common.j3 : Nat → List Int → List Int → Int → Bool → Option (List Int)
 | 0, _, _, _, _ => none
 | k + 1, x5, x6, x7, x45 => if x45 = true then ((sibylref01_Bit.f x5 0).bind fun t316 => (if t316 = true then ((sibylref01_Bit.f x6 0).bind fun t317 => (if t317 = true then ((sibylref01_Cmp.f k x5 x6).bind fun t318 => (if t318 ≥ 0 then ((sibylref01_Minus.f k x5 x6).bind fun t319 => (sibylref01_Common.l1 k t319 x6 x7)) else ((sibylref01_Minus.f k x6 x5).bind fun t322 => (sibylref01_Common.l1 k x5 t322 x7)))) else ((sibylref01_Shr.f k x6 1).bind fun t325 => (sibylref01_Common.l1 k x5 t325 x7)))) else ((sibylref01_Shr.f k x5 1).bind fun t328 => (sibylref01_Common.l1 k t328 x6 x7)))) else ((sibylref01_Plus.f k x5 x6).bind fun t310 => ((sibylref01_Shl.f k t310 x7).bind fun t313 => (some t313)))
def sibylref01_Common.l0 : Nat → List Int → List Int → Int → Option (List Int)
 | 0, _, _, _ => none
 | k + 1, x5, x6, x7 => (sibylref01_Bit.f x5 x7).bind fun t302 => (if t302 = true then (sibylref01_Common.j1 k x5 x6 x7) else ((sibylref01_Bit.f x6 x7).bind fun t303 => (if t303 = true then (sibylref01_Common.j1 k x5 x6 x7) else (sibylref01_Common.l0 k x5 x6 (wrap64 (x7 + 1))))))
end
def sibylref01_Common.f (k : Nat) (l0 : List Int) (l1 : List Int) : Option (List Int) := (sibylref01_Trim.f k l0).bind fun t296 => ((sibylref01_Trim.f k l1).bind fun t299 => (if (t296.length : Int) = 0 then (some t299) else (if (t299.length : Int) = 0 then (some t296) else (sibylref01_Common.l0 k t296 t299 0))))
set_option maxHeartbeats 8000000 in
set_option maxRecDepth 100000 in
theorem sibylref01_Common.calls (k : Nat) (A0 : Option Addr) (c0 : Nat) (l0 : List Int) (A1 : Option Addr) (c1 : Nat) (l1 : List Int) (r : List Int) (w : World) (hr0 : Kd.C (Kd.int .u32) w A0 l0.length l0) (hc0 : l0.length ≤ c0) (hr1 : Kd.C (Kd.int .u32) w A1 l1.length l1) (hc1 : l1.length ≤ c1) (h : sibylref01_Common.f k l0 l1 = some r) :
  Calls Try.prog 81 #[.slice A0 l0.length c0, .slice A1 l1.length c1] w fun e w' => ∃ v0_ : Value, e = .returned (v0_) ∧ Kd.R (Kd.int .u32) 99 w' w.heap.size (fun _ => True) v0_ r ∧ Below w.heap.size w w' := by
 have HR0 := Aside0.mk hr0
 have HC0 := Aside0.mk hc0
 clear hr0 hc0
 have HR1 := Aside0.mk hr1
 have HC1 := Aside0.mk hc1
 clear hr1 hc1
 have HB := Aside0.mk (Below.refl w.heap.size w)
 have H : ((sibylref01_Trim.f k l0).bind fun t296 => ((sibylref01_Trim.f k l1).bind fun t299 => (if (t296.length : Int) = 0 then (some t299) else (if (t299.length : Int) = 0 then (some t296) else (sibylref01_Common.l0 k t296 t299 0))))) = some r := h
 clear h
 obtain ⟨t296, A3, H⟩ := bindA H
 obtain ⟨t299, A4, H⟩ := bindA H
 by_cases c5 : (t296.length : Int) = 0
 ·rw [if_pos c5] at H
  have c5b0 : ((t296.length : Int) == 0) = true := beq_iff_eq.mpr c5
  have c5b1 : ((t296.length : Int) != 0) = false := bne_eq_false_iff_eq.mpr c5
  clear c5
  obtain rfl := Option.some.inj H
  go_enter Try.func81, Try.ntmps81
  go_wp2_with (first | ((with_reducible refine gate_callee (f := 83) rfl ?_); refine goesM (some 9) rfl rfl Try.func83 (by kernel_rfl) rfl #[.slice A0 l0.length c0] rfl (by rfl) ?_; (with_reducible refine (sibylref01_Trim.calls k _ _ l0 t296 _ ?side1 ?side2 A3.out).mono ?_); (case side1 => exact ca HR0.out); (case side2 => exact HC0.out); rintro e w6 ⟨v297, rfl, ho0, hb⟩; refine ⟨_, rfl, ?_⟩; have n_ := mk2 (Kd.R_lower ho0 (below_size (bl HB))) (below_step (bl HB) hb); clear HB; obtain ⟨HO298, HB⟩ := n_; (try clear hb); (try clear hb2); (try clear hk); (try clear hi); (try clear ho0)) | ((with_reducible refine gate_callee (f := 83) rfl ?_); refine goesM (some 11) rfl rfl Try.func83 (by kernel_rfl) rfl #[.slice A1 l1.length c1] rfl (by rfl) ?_; (with_reducible refine (sibylref01_Trim.calls k _ _ l1 t299 _ ?side1 ?side2 A4.out).mono ?_); (case side1 => exact ca (Kd.C_below HR1.out HB.out)); (case side2 => exact HC1.out); rintro e w7 ⟨v300, rfl, ho0, hb⟩; refine ⟨_, rfl, ?_⟩; have n_ := mk3 (Kd.R_elder' (ra HO298.out) (Kd.R_base ho0) hb) (Kd.R_lower (Kd.R_new' ho0 (Kd.R_lt (ra HO298.out))) (below_size (bl HB))) (below_step (bl HB) hb); clear HO298 HB; obtain ⟨HO298, HO301, HB⟩ := n_; (try clear hb); (try clear hb2); (try clear hk); (try clear hi); (try clear ho0); obtain ⟨Ao8, co8, eo8⟩ := Kd.R_slice HO298.out; subst eo8))
  go_ret
  exact ⟨_, by first | rfl | simp [*], ra (Kd.R_mono HO301.out (fun _ hk => trivial)), bl HB⟩
 ·rw [if_neg c5] at H
  have c5b0 : ((t296.length : Int) == 0) = false := beq_eq_false_iff_ne.mpr c5
  have c5b1 : ((t296.length : Int) != 0) = true := bne_iff_ne.mpr c5
  have c5b2 : ¬ (t296 = []) := fun h_ => c5 (by rw [h_]; rfl)
  by_cases c9 : (t299.length : Int) = 0
  ·rw [if_pos c9] at H
   have c9b0 : ((t299.length : Int) == 0) = true := beq_iff_eq.mpr c9
   have c9b1 : ((t299.length : Int) != 0) = false := bne_eq_false_iff_eq.mpr c9
   clear c9
   obtain rfl := Option.some.inj H
   go_enter Try.func81, Try.ntmps81
   go_wp2_with (first | ((with_reducible refine gate_callee (f := 83) rfl ?_); refine goesM (some 9) rfl rfl Try.func83 (by kernel_rfl) rfl #[.slice A0 l0.length c0] rfl (by rfl) ?_; (with_reducible refine (sibylref01_Trim.calls k _ _ l0 t296 _ ?side1 ?side2 A3.out).mono ?_); (case side1 => exact ca HR0.out); (case side2 => exact HC0.out); rintro e w10 ⟨v297, rfl, ho0, hb⟩; refine ⟨_, rfl, ?_⟩; have n_ := mk2 (Kd.R_lower ho0 (below_size (bl HB))) (below_step (bl HB) hb); clear HB; obtain ⟨HO298, HB⟩ := n_; (try clear hb); (try clear hb2); (try clear hk); (try clear hi); (try clear ho0)) | ((with_reducible refine gate_callee (f := 83) rfl ?_); refine goesM (some 11) rfl rfl Try.func83 (by kernel_rfl) rfl #[.slice A1 l1.length c1] rfl (by rfl) ?_; (with_reducible refine (sibylref01_Trim.calls k _ _ l1 t299 _ ?side1 ?side2 A4.out).mono ?_); (case side1 => exact ca (Kd.C_below HR1.out HB.out)); (case side2 => exact HC1.out); rintro e w11 ⟨v300, rfl, ho0, hb⟩; refine ⟨_, rfl, ?_⟩; have n_ := mk3 (Kd.R_elder' (ra HO298.out) (Kd.R_base ho0) hb) (Kd.R_lower (Kd.R_new' ho0 (Kd.R_lt (ra HO298.out))) (below_size (bl HB))) (below_step (bl HB) hb); clear HO298 HB; obtain ⟨HO298, HO301, HB⟩ := n_; (try clear hb); (try clear hb2); (try clear hk); (try clear hi); (try clear ho0); obtain ⟨Ao12, co12, eo12⟩ := Kd.R_slice HO298.out; subst eo12; obtain ⟨Ao13, co13, eo13⟩ := Kd.R_slice HO301.out; subst eo13))
   go_ret
   exact ⟨_, by first | rfl | simp [*], ra (Kd.R_mono HO298.out (fun _ hk => trivial)), bl HB⟩
  ·rw [if_neg c9] at H
   have c9b0 : ((t299.length : Int) == 0) = false := beq_eq_false_iff_ne.mpr c9
   have c9b1 : ((t299.length : Int) != 0) = true := bne_iff_ne.mpr c9
   have c9b2 : ¬ (t299 = []) := fun h_ => c9 (by rw [h_]; rfl)
   have HC14 := Aside0.mk H
   clear H
   go_enter Try.func81, Try.ntmps81
   go_upto_block 0 with (first | ((with_reducible refine gate_callee (f := 83) rfl ?_); refine goesM (some 9) rfl rfl Try.func83 (by kernel_rfl) rfl #[.slice A0 l0.length c0] rfl (by rfl) ?_; (with_reducible refine (sibylref01_Trim.calls k _ _ l0 t296 _ ?side1 ?side2 A3.out).mono ?_); (case side1 => exact ca HR0.out); (case side2 => exact HC0.out); rintro e w15 ⟨v297, rfl, ho0, hb⟩; refine ⟨_, rfl, ?_⟩; have n_ := mk2 (Kd.R_lower ho0 (below_size (bl HB))) (below_step (bl HB) hb); clear HB; obtain ⟨HO298, HB⟩ := n_; (try clear hb); (try clear hb2); (try clear hk); (try clear hi); (try clear ho0)) | ((with_reducible refine gate_callee (f := 83) rfl ?_); refine goesM (some 11) rfl rfl Try.func83 (by kernel_rfl) rfl #[.slice A1 l1.length c1] rfl (by rfl) ?_; (with_reducible refine (sibylref01_Trim.calls k _ _ l1 t299 _ ?side1 ?side2 A4.out).mono ?_); (case side1 => exact ca (Kd.C_below HR1.out HB.out)); (case side2 => exact HC1.out); rintro e w16 ⟨v300, rfl, ho0, hb⟩; refine ⟨_, rfl, ?_⟩; have n_ := mk3 (Kd.R_elder' (ra HO298.out) (Kd.R_base ho0) hb) (Kd.R_lower (Kd.R_new' ho0 (Kd.R_lt (ra HO298.out))) (below_size (bl HB))) (below_step (bl HB) hb); clear HO298 HB; obtain ⟨HO298, HO301, HB⟩ := n_; (try clear hb); (try clear hb2); (try clear hk); (try clear hi); (try clear ho0); obtain ⟨Ao17, co17, eo17⟩ := Kd.R_slice HO298.out; subst eo17; obtain ⟨Ao18, co18, eo18⟩ := Kd.R_slice HO301.out; subst eo18))
   (try simp only [Act.put, List.setIfInBounds_toArray, List.set_cons_zero, List.set_cons_succ])
   go_cut [7] (fun v7 wc => ∃ (kq : Nat) (x7_13 : Int), v7 = .int .i64 x7_13 ∧ Aside0 (sibylref01_Common.j1 kq t296 t299 x7_13 = some r) ∧ Aside0 (kq ≤ k) ∧ Aside0 (Kd.R (Kd.int .u32) 99 wc w.heap.size (fun k_ => some k_ ≠ ((.slice Ao18 t299.length co18) : Value).ownBlock) (.slice Ao17 t296.length co17) t296) ∧ Aside0 (Kd.R (Kd.int .u32) 99 wc w.heap.size (fun k_ => some k_ ≠ ((.slice Ao17 t296.length co17) : Value).ownBlock) (.slice Ao18 t299.length co18) t299) ∧ Aside0 (Below w.heap.size w wc))
   case first =>
    have H := HC14.out
    clear HC14
    have H' := Aside0.mk H
    clear H
    go_wp2
    go_loopg [7] k (fun kq v7 w' => ∃ (x7_1 : Int), v7 = .int .i64 x7_1 ∧ Aside0 (sibylref01_Common.l0 kq t296 t299 x7_1 = some r) ∧ Aside0 (kq ≤ k) ∧ Aside0 (Kd.R (Kd.int .u32) 99 w' w.heap.size (fun k_ => some k_ ≠ ((.slice Ao18 t299.length co18) : Value).ownBlock) (.slice Ao17 t296.length co17) t296) ∧ Aside0 (Kd.R (Kd.int .u32) 99 w' w.heap.size (fun k_ => some k_ ≠ ((.slice Ao17 t296.length co17) : Value).ownBlock) (.slice Ao18 t299.length co18) t299) ∧ Aside0 (Below w.heap.size w w'))
    case atStart => exact ⟨(0), (by first | rfl | (simp; done) | (simp [*]; done)), H', ⟨Nat.le_refl _⟩, ⟨ra (Kd.R_mono HO298.out (fun _ hk => hk.2))⟩, ⟨ra (Kd.R_mono HO301.out (fun _ hk => hk.2))⟩, ⟨bl HB⟩⟩
    case round =>
     clear H'
     try clear c1
     try clear p2
     try clear c5
     try clear c5b0
     try clear c5b1
     try clear c5b2
     try clear c8
     try clear c9
     try clear c9b0
     try clear c9b1
     try clear c9b2
     obtain ⟨x7_1, rfl, HA, HK1, HO_5, HO_6, HB⟩ := hrel
     cases gk with
     | zero => exact absurd HA.out (by simp [sibylref01_Common.l0])
     | succ k1 =>
      have H := HA.out
      clear HA
      simp only [sibylref01_Common.l0] at H
      obtain ⟨t302, A19, H⟩ := bindA H
      by_cases c20 : t302 = true
      ·subst c20
       have H1 : (sibylref01_Common.j1 k1 t296 t299 x7_1) = some r := by rw [if_pos rfl] at H; exact H
       clear H
       have H := H1
       clear H1
       have H' := Aside0.mk H
       clear H
       go_wp2_with (first | ((with_reducible refine gate_callee (f := 95) rfl ?_); refine goesM (some 22) rfl rfl Try.func95 (by kernel_rfl) rfl #[.slice Ao17 t296.length co17, .int .i64 x7_1] rfl (by rfl) ?_; (with_reducible refine (sibylref01_Bit.calls _ _ t296 x7_1 true _ ?side1 ?side2 A19.out).mono ?_); (case side1 => exact ca ((Kd.R_reads' HO_5.out).2.2)); (case side2 => exact (Kd.R_reads' HO_5.out).2.1); rintro e w' ⟨rfl, ⟨nd, rfl⟩⟩; refine ⟨_, rfl, ?_⟩))
       go_meet
       case rel => exact ⟨_, (x7_1), (by first | rfl | (simp; done) | (simp [*]; done)), H', ⟨by have := HK1.out; first | omega | exact Nat.le_refl _⟩, ⟨ra HO_5.out⟩, ⟨ra HO_6.out⟩, ⟨bl HB⟩⟩
      ·replace c20 := Bool.eq_false_iff.mpr c20
       subst c20
       have H1 : ((sibylref01_Bit.f t299 x7_1).bind fun t303 => (if t303 = true then (sibylref01_Common.j1 k1 t296 t299 x7_1) else (sibylref01_Common.l0 k1 t296 t299 (wrap64 (x7_1 + 1))))) = some r := by rw [if_neg (show ¬ (false = true) by decide)] at H; exact H
       clear H
       have H := H1
       clear H1
       obtain ⟨t303, A21, H⟩ := bindA H
       by_cases c22 : t303 = true
       ·subst c22
        have H1 : (sibylref01_Common.j1 k1 t296 t299 x7_1) = some r := by rw [if_pos rfl] at H; exact H
        clear H
        have H := H1
        clear H1
        have H' := Aside0.mk H
        clear H
        go_wp2_with (first | ((with_reducible refine gate_callee (f := 95) rfl ?_); refine goesM (some 22) rfl rfl Try.func95 (by kernel_rfl) rfl #[.slice Ao17 t296.length co17, .int .i64 x7_1] rfl (by rfl) ?_; (with_reducible refine (sibylref01_Bit.calls _ _ t296 x7_1 false _ ?side1 ?side2 A19.out).mono ?_); (case side1 => exact ca ((Kd.R_reads' HO_5.out).2.2)); (case side2 => exact (Kd.R_reads' HO_5.out).2.1); rintro e w' ⟨rfl, ⟨nd, rfl⟩⟩; refine ⟨_, rfl, ?_⟩) | (go_at_call 95; (with_reducible refine (sibylref01_Bit.calls _ _ t299 x7_1 true _ ?side1 ?side2 A21.out).mono ?_); (case side1 => exact ca ((Kd.R_reads' HO_6.out).2.2)); (case side2 => exact (Kd.R_reads' HO_6.out).2.1); rintro e w' ⟨rfl, ⟨nd, rfl⟩⟩))
        go_meet
        case rel => exact ⟨_, (x7_1), (by first | rfl | (simp; done) | (simp [*]; done)), H', ⟨by have := HK1.out; first | omega | exact Nat.le_refl _⟩, ⟨ra HO_5.out⟩, ⟨ra HO_6.out⟩, ⟨bl HB⟩⟩
       ·replace c22 := Bool.eq_false_iff.mpr c22
        subst c22
        have H1 : (sibylref01_Common.l0 k1 t296 t299 (wrap64 (x7_1 + 1))) = some r := by rw [if_neg (show ¬ (false = true) by decide)] at H; exact H
        clear H
        have H := H1
        clear H1
        have H' := Aside0.mk H
        clear H
        go_wp2_with (first | ((with_reducible refine gate_callee (f := 95) rfl ?_); refine goesM (some 22) rfl rfl Try.func95 (by kernel_rfl) rfl #[.slice Ao17 t296.length co17, .int .i64 x7_1] rfl (by rfl) ?_; (with_reducible refine (sibylref01_Bit.calls _ _ t296 x7_1 false _ ?side1 ?side2 A19.out).mono ?_); (case side1 => exact ca ((Kd.R_reads' HO_5.out).2.2)); (case side2 => exact (Kd.R_reads' HO_5.out).2.1); rintro e w' ⟨rfl, ⟨nd, rfl⟩⟩; refine ⟨_, rfl, ?_⟩) | (go_at_call 95; (with_reducible refine (sibylref01_Bit.calls _ _ t299 x7_1 false _ ?side1 ?side2 A21.out).mono ?_); (case side1 => exact ca ((Kd.R_reads' HO_6.out).2.2)); (case side2 => exact (Kd.R_reads' HO_6.out).2.1); rintro e w' ⟨rfl, ⟨nd, rfl⟩⟩))
        go_roundg k1
        case measure => have := HK1.out; omega
        case rel => exact ⟨(wrap64 (x7_1 + 1)), (by first | rfl | (simp; done) | (simp [*]; done)), H', ⟨by have := HK1.out; omega⟩, ⟨ra HO_5.out⟩, ⟨ra HO_6.out⟩, ⟨bl HB⟩⟩
   case rest =>
    clear HC14
    try clear c1
    try clear c2
    try clear p2
    try clear c5
    try clear c5b0
    try clear c5b1
    try clear c5b2
    try clear p6
    try clear c8
    try clear c9
    try clear c9b0
    try clear c9b1
    try clear c9b2
    try clear c20
    try clear c22
    try clear p2
    obtain ⟨kq, x7_13, rfl, HA, HJ13, HO_5, HO_6, HB⟩ := hcut
    cases kq with
    | zero => exact absurd HA.out (by simp [sibylref01_Common.j1])
    | succ kj13 =>
     have H := HA.out
     clear HA
     simp only [sibylref01_Common.j1] at H
     obtain ⟨t304, A23, H⟩ := bindA H
     obtain ⟨t307, A24, H⟩ := bindA H
     have H' := Aside0.mk H
     clear H
     go_wp2_with (first | ((with_reducible refine gate_callee (f := 87) rfl ?_); refine goesM (some 34) rfl rfl Try.func87 (by kernel_rfl) rfl #[.slice Ao17 t296.length co17, .int .i64 x7_13] rfl (by rfl) ?_; (with_reducible refine (sibylref01_Shr.calls kj13 _ _ t296 x7_13 t304 _ ?side1 ?side2 A23.out).mono ?_); (case side1 => exact ca ((Kd.R_reads' HO_5.out).2.2)); (case side2 => exact (Kd.R_reads' HO_5.out).2.1); rintro e w25 ⟨v305, rfl, ho0, hb⟩; refine ⟨_, rfl, ?_⟩; have n_ := mk4 (Kd.R_elder' (ra HO_5.out) (Kd.R_base ho0) hb) (Kd.R_elder' (ra HO_6.out) (Kd.R_base ho0) hb) (Kd.R_lower (Kd.R_new' (Kd.R_new' ho0 (Kd.R_lt (ra HO_5.out))) (Kd.R_lt (ra HO_6.out))) (below_size (bl HB))) (below_step (bl HB) hb); clear HO_5 HO_6 HB; obtain ⟨HO_5, HO_6, HO306, HB⟩ := n_; (try clear hb); (try clear hb2); (try clear hk); (try clear hi); (try clear ho0)) | ((with_reducible refine gate_callee (f := 87) rfl ?_); refine goesM (some 37) rfl rfl Try.func87 (by kernel_rfl) rfl #[.slice Ao18 t299.length co18, .int .i64 x7_13] rfl (by rfl) ?_; (with_reducible refine (sibylref01_Shr.calls kj13 _ _ t299 x7_13 t307 _ ?side1 ?side2 A24.out).mono ?_); (case side1 => exact ca ((Kd.R_reads' HO_6.out).2.2)); (case side2 => exact (Kd.R_reads' HO_6.out).2.1); rintro e w26 ⟨v308, rfl, ho0, hb⟩; refine ⟨_, rfl, ?_⟩; have n_ := mk5 (Kd.R_elder' (ra HO_5.out) (Kd.R_base ho0) hb) (Kd.R_elder' (ra HO_6.out) (Kd.R_base ho0) hb) (Kd.R_elder' (ra HO306.out) (Kd.R_base ho0) hb) (Kd.R_lower (Kd.R_new' (Kd.R_new' (Kd.R_new' ho0 (Kd.R_lt (ra HO_5.out))) (Kd.R_lt (ra HO_6.out))) (Kd.R_lt (ra HO306.out))) (below_size (bl HB))) (below_step (bl HB) hb); clear HO_5 HO_6 HO306 HB; obtain ⟨HO_5, HO_6, HO306, HO309, HB⟩ := n_; (try clear hb); (try clear hb2); (try clear hk); (try clear hi); (try clear ho0)))
     go_loopg [5, 6] kj13 (fun kq v5 v6 w' => ∃ (x5_2 : List Int) (x6_2 : List Int), Aside0 (sibylref01_Common.l1 kq x5_2 x6_2 x7_13 = some r) ∧ Aside0 (kq ≤ kj13) ∧ Aside0 (Kd.R (Kd.int .u32) 99 w' w.heap.size (fun k_ => some k_ ≠ (v6 : Value).ownBlock) v5 x5_2) ∧ Aside0 (Kd.R (Kd.int .u32) 99 w' w.heap.size (fun k_ => some k_ ≠ (v5 : Value).ownBlock) v6 x6_2) ∧ Aside0 (Below w.heap.size w w'))
     case atStart => exact ⟨(t304), (t307), H', ⟨Nat.le_refl _⟩, ⟨ra (Kd.R_mono HO306.out (fun _ hk => hk.2))⟩, ⟨ra (Kd.R_mono HO309.out (fun _ hk => hk.2))⟩, ⟨bl HB⟩⟩
     case round =>
      clear H'
      try clear c1
      try clear c2
      try clear p2
      try clear c5
      try clear c5b0
      try clear c5b1
      try clear c5b2
      try clear p6
      try clear c8
      try clear c9
      try clear c9b0
      try clear c9b1
      try clear c9b2
      try clear c20
      try clear c22
      try clear p2
      try clear p6
      obtain ⟨x5_2, x6_2, HA, HK2, HO_5, HO_6, HB⟩ := hrel
      cases gk with
      | zero => exact absurd HA.out (by simp [sibylref01_Common.l1])
      | succ k2 =>
       have H := HA.out
       clear HA
       simp only [sibylref01_Common.l1] at H
       have HC27 := Aside0.mk H
       clear H
       go_upto_region 10 with (fail)
       go_cut [45] (fun v45 wc => ∃ (kq : Nat) (x45_26 : Bool), v45 = .bool x45_26 ∧ Aside0 (sibylref01_Common.j3 kq x5_2 x6_2 x7_13 x45_26 = some r) ∧ Aside0 (kq ≤ k2) ∧ Aside0 (Kd.R (Kd.int .u32) 99 wc w.heap.size (fun k_ => some k_ ≠ (u6 : Value).ownBlock) u5 x5_2) ∧ Aside0 (Kd.R (Kd.int .u32) 99 wc w.heap.size (fun k_ => some k_ ≠ (u5 : Value).ownBlock) u6 x6_2) ∧ Aside0 (Below w.heap.size w wc))
       case first =>
        have H := HC27.out
        clear HC27
        by_cases c28 : (x5_2.length : Int) > 0
        ·rw [if_pos c28] at H
         have c28b0 : decide (0 < (x5_2.length : Int)) = true := decide_eq_true c28
         have c28b1 : decide (0 < x5_2.length) = true := decide_eq_true (by omega)
         clear c28
         (first | rw [c28b0] | (simp only [i64_w, i32_w]; rw [c28b0]) | skip)
         have H' := Aside0.mk H
         clear H
         obtain ⟨Ao29, co29, eo29⟩ := Kd.R_slice HO_5.out
         subst eo29
         obtain ⟨Ao30, co30, eo30⟩ := Kd.R_slice HO_6.out
         subst eo30
         go_wp2
         go_meet
         case rel => exact ⟨_, (decide ((x6_2.length : Int) > 0)), (by first | rfl | (simp; done) | (simp [*]; done)), H', ⟨by have := HJ13.out; have := HK2.out; first | omega | exact Nat.le_refl _⟩, ⟨ra HO_5.out⟩, ⟨ra HO_6.out⟩, ⟨bl HB⟩⟩
        ·rw [if_neg c28] at H
         have c28b0 : decide (0 < (x5_2.length : Int)) = false := decide_eq_false c28
         have c28b1 : decide (0 < x5_2.length) = false := decide_eq_false (by omega)
         clear c28
         (first | rw [c28b0] | (simp only [i64_w, i32_w]; rw [c28b0]) | skip)
         have H' := Aside0.mk H
         clear H
         obtain ⟨Ao31, co31, eo31⟩ := Kd.R_slice HO_5.out
         subst eo31
         go_wp2
         go_meet
         case rel => exact ⟨_, (false), (by first | rfl | (simp; done) | (simp [*]; done)), H', ⟨by have := HJ13.out; have := HK2.out; first | omega | exact Nat.le_refl _⟩, ⟨ra HO_5.out⟩, ⟨ra HO_6.out⟩, ⟨bl HB⟩⟩
       case rest =>
        clear HC27
        try clear c1
        try clear c2
        try clear p2
        try clear c5
        try clear c5b0
        try clear c5b1
        try clear c5b2
        try clear p6
        try clear c8
        try clear c9
        try clear c9b0
        try clear c9b1
        try clear c9b2
        try clear c20
        try clear c22
        try clear c28
        try clear c28b0
        try clear c28b1
        try clear p2
        try clear p6
        obtain ⟨kq, x45_26, rfl, HA, HJ26, HO_5, HO_6, HB⟩ := hcut
        cases kq with
        | zero => exact absurd HA.out (by simp [sibylref01_Common.j3])
        | succ kj26 =>
         have H := HA.out
         clear HA
         simp only [sibylref01_Common.j3] at H
         by_cases c32 : x45_26 = true
         ·subst c32
          have H1 : ((sibylref01_Bit.f x5_2 0).bind fun t316 => (if t316 = true then ((sibylref01_Bit.f x6_2 0).bind fun t317 => (if t317 = true then ((sibylref01_Cmp.f kj26 x5_2 x6_2).bind fun t318 => (if t318 ≥ 0 then ((sibylref01_Minus.f kj26 x5_2 x6_2).bind fun t319 => (sibylref01_Common.l1 kj26 t319 x6_2 x7_13)) else ((sibylref01_Minus.f kj26 x6_2 x5_2).bind fun t322 => (sibylref01_Common.l1 kj26 x5_2 t322 x7_13)))) else ((sibylref01_Shr.f kj26 x6_2 1).bind fun t325 => (sibylref01_Common.l1 kj26 x5_2 t325 x7_13)))) else ((sibylref01_Shr.f kj26 x5_2 1).bind fun t328 => (sibylref01_Common.l1 kj26 t328 x6_2 x7_13)))) = some r := by rw [if_pos rfl] at H; exact H
          clear H
          have H := H1
          clear H1
          obtain ⟨t316, A33, H⟩ := bindA H
          by_cases c34 : t316 = true
          ·subst c34
           have H1 : ((sibylref01_Bit.f x6_2 0).bind fun t317 => (if t317 = true then ((sibylref01_Cmp.f kj26 x5_2 x6_2).bind fun t318 => (if t318 ≥ 0 then ((sibylref01_Minus.f kj26 x5_2 x6_2).bind fun t319 => (sibylref01_Common.l1 kj26 t319 x6_2 x7_13)) else ((sibylref01_Minus.f kj26 x6_2 x5_2).bind fun t322 => (sibylref01_Common.l1 kj26 x5_2 t322 x7_13)))) else ((sibylref01_Shr.f kj26 x6_2 1).bind fun t325 => (sibylref01_Common.l1 kj26 x5_2 t325 x7_13)))) = some r := by rw [if_pos rfl] at H; exact H
           clear H
           have H := H1
           clear H1
           obtain ⟨t317, A35, H⟩ := bindA H
           by_cases c36 : t317 = true
           ·subst c36
            have H1 : ((sibylref01_Cmp.f kj26 x5_2 x6_2).bind fun t318 => (if t318 ≥ 0 then ((sibylref01_Minus.f kj26 x5_2 x6_2).bind fun t319 => (sibylref01_Common.l1 kj26 t319 x6_2 x7_13)) else ((sibylref01_Minus.f kj26 x6_2 x5_2).bind fun t322 => (sibylref01_Common.l1 kj26 x5_2 t322 x7_13)))) = some r := by rw [if_pos rfl] at H; exact H
            clear H
            have H := H1
            clear H1
            obtain ⟨t318, A37, H⟩ := bindA H
            by_cases c38 : t318 ≥ 0
            ·rw [if_pos c38] at H
             have c38b0 : decide (0 ≤ t318) = true := decide_eq_true c38
             clear c38
             obtain ⟨t319, A39, H⟩ := bindA H
             have H' := Aside0.mk H
             clear H
             obtain ⟨Ao40, co40, eo40⟩ := Kd.R_slice HO_5.out
             subst eo40
             go_wp2_with (first | ((with_reducible refine gate_callee (f := 95) rfl ?_); refine goesM (some 47) rfl rfl Try.func95 (by kernel_rfl) rfl #[.slice Ao40 x5_2.length co40, .int .i64 0] rfl (by rfl) ?_; (with_reducible refine (sibylref01_Bit.calls _ _ x5_2 0 true _ ?side1 ?side2 A33.out).mono ?_); (case side1 => exact ca ((Kd.R_reads' HO_5.out).2.2)); (case side2 => exact (Kd.R_reads' HO_5.out).2.1); rintro e w' ⟨rfl, ⟨nd, rfl⟩⟩; refine ⟨_, rfl, ?_⟩; obtain ⟨Ao41, co41, eo41⟩ := Kd.R_slice HO_6.out; subst eo41) | ((with_reducible refine gate_callee (f := 95) rfl ?_); refine goesM (some 52) rfl rfl Try.func95 (by kernel_rfl) rfl #[.slice Ao41 x6_2.length co41, .int .i64 0] rfl (by rfl) ?_; (with_reducible refine (sibylref01_Bit.calls _ _ x6_2 0 true _ ?side1 ?side2 A35.out).mono ?_); (case side1 => exact ca ((Kd.R_reads' HO_6.out).2.2)); (case side2 => exact (Kd.R_reads' HO_6.out).2.1); rintro e w' ⟨rfl, ⟨nd, rfl⟩⟩; refine ⟨_, rfl, ?_⟩) | ((with_reducible refine gate_callee (f := 70) rfl ?_); refine goesM (some 58) rfl rfl Try.func70 (by kernel_rfl) rfl #[.slice Ao40 x5_2.length co40, .slice Ao41 x6_2.length co41] rfl (by rfl) ?_; (with_reducible refine (sibylref01_Cmp.calls kj26 _ _ x5_2 _ _ x6_2 t318 _ ?side1 ?side2 ?side3 ?side4 A37.out).mono ?_); (case side1 => exact ca ((Kd.R_reads' HO_5.out).2.2)); (case side2 => exact (Kd.R_reads' HO_5.out).2.1); (case side3 => exact ca ((Kd.R_reads' HO_6.out).2.2)); (case side4 => exact (Kd.R_reads' HO_6.out).2.1); rintro e w42 ⟨rfl, hb⟩; refine ⟨_, rfl, ?_⟩; have n_ := mk3 (Kd.R_below (ra HO_5.out) hb) (Kd.R_below (ra HO_6.out) hb) (below_step (bl HB) hb); clear HO_5 HO_6 HB; obtain ⟨HO_5, HO_6, HB⟩ := n_; (try clear hb); (try clear hb2); (try clear hk); (try clear hi)) | ((with_reducible refine gate_callee (f := 71) rfl ?_); refine goesM (some 62) rfl rfl Try.func71 (by kernel_rfl) rfl #[.slice Ao40 x5_2.length co40, .slice Ao41 x6_2.length co41] rfl (by rfl) ?_; (with_reducible refine (sibylref01_Minus.calls kj26 _ _ x5_2 _ _ x6_2 t319 _ ?side1 ?side2 ?side3 ?side4 A39.out).mono ?_); (case side1 => exact ca ((Kd.R_reads' HO_5.out).2.2)); (case side2 => exact (Kd.R_reads' HO_5.out).2.1); (case side3 => exact ca ((Kd.R_reads' HO_6.out).2.2)); (case side4 => exact (Kd.R_reads' HO_6.out).2.1); rintro e w43 ⟨v320, rfl, ho0, hb⟩; refine ⟨_, rfl, ?_⟩; have n_ := mk4 (Kd.R_elder' (ra HO_5.out) (Kd.R_base ho0) hb) (Kd.R_elder' (ra HO_6.out) (Kd.R_base ho0) hb) (Kd.R_lower (Kd.R_new' (Kd.R_new' ho0 (Kd.R_lt (ra HO_5.out))) (Kd.R_lt (ra HO_6.out))) (below_size (bl HB))) (below_step (bl HB) hb); clear HO_5 HO_6 HB; obtain ⟨HO_5, HO_6, HO321, HB⟩ := n_; (try clear hb); (try clear hb2); (try clear hk); (try clear hi); (try clear ho0)))
             go_roundg kj26
             case measure => have := HJ13.out; have := HK2.out; have := HJ26.out; omega
             case rel => exact ⟨(t319), (x6_2), H', ⟨by have := HJ13.out; have := HK2.out; have := HJ26.out; omega⟩, ⟨ra (Kd.R_mono HO321.out (fun _ hk => hk.2))⟩, ⟨ra (Kd.R_mono HO_6.out (fun _ hk => hk.2))⟩, ⟨bl HB⟩⟩
            ·rw [if_neg c38] at H
             have c38b0 : decide (0 ≤ t318) = false := decide_eq_false c38
             clear c38
             obtain ⟨t322, A44, H⟩ := bindA H
             have H' := Aside0.mk H
             clear H
             obtain ⟨Ao45, co45, eo45⟩ := Kd.R_slice HO_5.out
             subst eo45
             go_wp2_with (first | ((with_reducible refine gate_callee (f := 95) rfl ?_); refine goesM (some 47) rfl rfl Try.func95 (by kernel_rfl) rfl #[.slice Ao45 x5_2.length co45, .int .i64 0] rfl (by rfl) ?_; (with_reducible refine (sibylref01_Bit.calls _ _ x5_2 0 true _ ?side1 ?side2 A33.out).mono ?_); (case side1 => exact ca ((Kd.R_reads' HO_5.out).2.2)); (case side2 => exact (Kd.R_reads' HO_5.out).2.1); rintro e w' ⟨rfl, ⟨nd, rfl⟩⟩; refine ⟨_, rfl, ?_⟩; obtain ⟨Ao46, co46, eo46⟩ := Kd.R_slice HO_6.out; subst eo46) | ((with_reducible refine gate_callee (f := 95) rfl ?_); refine goesM (some 52) rfl rfl Try.func95 (by kernel_rfl) rfl #[.slice Ao46 x6_2.length co46, .int .i64 0] rfl (by rfl) ?_; (with_reducible refine (sibylref01_Bit.calls _ _ x6_2 0 true _ ?side1 ?side2 A35.out).mono ?_); (case side1 => exact ca ((Kd.R_reads' HO_6.out).2.2)); (case side2 => exact (Kd.R_reads' HO_6.out).2.1); rintro e w' ⟨rfl, ⟨nd, rfl⟩⟩; refine ⟨_, rfl, ?_⟩) | ((with_reducible refine gate_callee (f := 70) rfl ?_); refine goesM (some 58) rfl rfl Try.func70 (by kernel_rfl) rfl #[.slice Ao45 x5_2.length co45, .slice Ao46 x6_2.length co46] rfl (by rfl) ?_; (with_reducible refine (sibylref01_Cmp.calls kj26 _ _ x5_2 _ _ x6_2 t318 _ ?side1 ?side2 ?side3 ?side4 A37.out).mono ?_); (case side1 => exact ca ((Kd.R_reads' HO_5.out).2.2)); (case side2 => exact (Kd.R_reads' HO_5.out).2.1); (case side3 => exact ca ((Kd.R_reads' HO_6.out).2.2)); (case side4 => exact (Kd.R_reads' HO_6.out).2.1); rintro e w47 ⟨rfl, hb⟩; refine ⟨_, rfl, ?_⟩; have n_ := mk3 (Kd.R_below (ra HO_5.out) hb) (Kd.R_below (ra HO_6.out) hb) (below_step (bl HB) hb); clear HO_5 HO_6 HB; obtain ⟨HO_5, HO_6, HB⟩ := n_; (try clear hb); (try clear hb2); (try clear hk); (try clear hi)) | ((with_reducible refine gate_callee (f := 71) rfl ?_); refine goesM (some 65) rfl rfl Try.func71 (by kernel_rfl) rfl #[.slice Ao46 x6_2.length co46, .slice Ao45 x5_2.length co45] rfl (by rfl) ?_; (with_reducible refine (sibylref01_Minus.calls kj26 _ _ x6_2 _ _ x5_2 t322 _ ?side1 ?side2 ?side3 ?side4 A44.out).mono ?_); (case side1 => exact ca ((Kd.R_reads' HO_6.out).2.2)); (case side2 => exact (Kd.R_reads' HO_6.out).2.1); (case side3 => exact ca ((Kd.R_reads' HO_5.out).2.2)); (case side4 => exact (Kd.R_reads' HO_5.out).2.1); rintro e w48 ⟨v323, rfl, ho0, hb⟩; refine ⟨_, rfl, ?_⟩; have n_ := mk4 (Kd.R_elder' (ra HO_5.out) (Kd.R_base ho0) hb) (Kd.R_elder' (ra HO_6.out) (Kd.R_base ho0) hb) (Kd.R_lower (Kd.R_new' (Kd.R_new' ho0 (Kd.R_lt (ra HO_5.out))) (Kd.R_lt (ra HO_6.out))) (below_size (bl HB))) (below_step (bl HB) hb); clear HO_5 HO_6 HB; obtain ⟨HO_5, HO_6, HO324, HB⟩ := n_; (try clear hb); (try clear hb2); (try clear hk); (try clear hi); (try clear ho0)))
             go_roundg kj26
             case measure => have := HJ13.out; have := HK2.out; have := HJ26.out; omega
             case rel => exact ⟨(x5_2), (t322), H', ⟨by have := HJ13.out; have := HK2.out; have := HJ26.out; omega⟩, ⟨ra (Kd.R_mono HO_5.out (fun _ hk => hk.2))⟩, ⟨ra (Kd.R_mono HO324.out (fun _ hk => hk.1.2))⟩, ⟨bl HB⟩⟩
           ·replace c36 := Bool.eq_false_iff.mpr c36
            subst c36
            have H1 : ((sibylref01_Shr.f kj26 x6_2 1).bind fun t325 => (sibylref01_Common.l1 kj26 x5_2 t325 x7_13)) = some r := by rw [if_neg (show ¬ (false = true) by decide)] at H; exact H
            clear H
            have H := H1
            clear H1
            obtain ⟨t325, A49, H⟩ := bindA H
            have H' := Aside0.mk H
            clear H
            obtain ⟨Ao50, co50, eo50⟩ := Kd.R_slice HO_5.out
            subst eo50
            go_wp2_with (first | ((with_reducible refine gate_callee (f := 95) rfl ?_); refine goesM (some 47) rfl rfl Try.func95 (by kernel_rfl) rfl #[.slice Ao50 x5_2.length co50, .int .i64 0] rfl (by rfl) ?_; (with_reducible refine (sibylref01_Bit.calls _ _ x5_2 0 true _ ?side1 ?side2 A33.out).mono ?_); (case side1 => exact ca ((Kd.R_reads' HO_5.out).2.2)); (case side2 => exact (Kd.R_reads' HO_5.out).2.1); rintro e w' ⟨rfl, ⟨nd, rfl⟩⟩; refine ⟨_, rfl, ?_⟩; obtain ⟨Ao51, co51, eo51⟩ := Kd.R_slice HO_6.out; subst eo51) | ((with_reducible refine gate_callee (f := 95) rfl ?_); refine goesM (some 52) rfl rfl Try.func95 (by kernel_rfl) rfl #[.slice Ao51 x6_2.length co51, .int .i64 0] rfl (by rfl) ?_; (with_reducible refine (sibylref01_Bit.calls _ _ x6_2 0 false _ ?side1 ?side2 A35.out).mono ?_); (case side1 => exact ca ((Kd.R_reads' HO_6.out).2.2)); (case side2 => exact (Kd.R_reads' HO_6.out).2.1); rintro e w' ⟨rfl, ⟨nd, rfl⟩⟩; refine ⟨_, rfl, ?_⟩) | ((with_reducible refine gate_callee (f := 87) rfl ?_); refine goesM (some 55) rfl rfl Try.func87 (by kernel_rfl) rfl #[.slice Ao51 x6_2.length co51, .int .i64 1] rfl (by rfl) ?_; (with_reducible refine (sibylref01_Shr.calls kj26 _ _ x6_2 1 t325 _ ?side1 ?side2 A49.out).mono ?_); (case side1 => exact ca ((Kd.R_reads' HO_6.out).2.2)); (case side2 => exact (Kd.R_reads' HO_6.out).2.1); rintro e w52 ⟨v326, rfl, ho0, hb⟩; refine ⟨_, rfl, ?_⟩; have n_ := mk4 (Kd.R_elder' (ra HO_5.out) (Kd.R_base ho0) hb) (Kd.R_elder' (ra HO_6.out) (Kd.R_base ho0) hb) (Kd.R_lower (Kd.R_new' (Kd.R_new' ho0 (Kd.R_lt (ra HO_5.out))) (Kd.R_lt (ra HO_6.out))) (below_size (bl HB))) (below_step (bl HB) hb); clear HO_5 HO_6 HB; obtain ⟨HO_5, HO_6, HO327, HB⟩ := n_; (try clear hb); (try clear hb2); (try clear hk); (try clear hi); (try clear ho0)))
            go_roundg kj26
            case measure => have := HJ13.out; have := HK2.out; have := HJ26.out; omega
            case rel => exact ⟨(x5_2), (t325), H', ⟨by have := HJ13.out; have := HK2.out; have := HJ26.out; omega⟩, ⟨ra (Kd.R_mono HO_5.out (fun _ hk => hk.2))⟩, ⟨ra (Kd.R_mono HO327.out (fun _ hk => hk.1.2))⟩, ⟨bl HB⟩⟩
          ·replace c34 := Bool.eq_false_iff.mpr c34
           subst c34
           have H1 : ((sibylref01_Shr.f kj26 x5_2 1).bind fun t328 => (sibylref01_Common.l1 kj26 t328 x6_2 x7_13)) = some r := by rw [if_neg (show ¬ (false = true) by decide)] at H; exact H
           clear H
           have H := H1
           clear H1
           obtain ⟨t328, A53, H⟩ := bindA H
           have H' := Aside0.mk H
           clear H
           obtain ⟨Ao54, co54, eo54⟩ := Kd.R_slice HO_5.out
           subst eo54
           go_wp2_with (first | ((with_reducible refine gate_callee (f := 95) rfl ?_); refine goesM (some 47) rfl rfl Try.func95 (by kernel_rfl) rfl #[.slice Ao54 x5_2.length co54, .int .i64 0] rfl (by rfl) ?_; (with_reducible refine (sibylref01_Bit.calls _ _ x5_2 0 false _ ?side1 ?side2 A33.out).mono ?_); (case side1 => exact ca ((Kd.R_reads' HO_5.out).2.2)); (case side2 => exact (Kd.R_reads' HO_5.out).2.1); rintro e w' ⟨rfl, ⟨nd, rfl⟩⟩; refine ⟨_, rfl, ?_⟩) | ((with_reducible refine gate_callee (f := 87) rfl ?_); refine goesM (some 50) rfl rfl Try.func87 (by kernel_rfl) rfl #[.slice Ao54 x5_2.length co54, .int .i64 1] rfl (by rfl) ?_; (with_reducible refine (sibylref01_Shr.calls kj26 _ _ x5_2 1 t328 _ ?side1 ?side2 A53.out).mono ?_); (case side1 => exact ca ((Kd.R_reads' HO_5.out).2.2)); (case side2 => exact (Kd.R_reads' HO_5.out).2.1); rintro e w55 ⟨v329, rfl, ho0, hb⟩; refine ⟨_, rfl, ?_⟩; have n_ := mk4 (Kd.R_elder' (ra HO_5.out) (Kd.R_base ho0) hb) (Kd.R_elder' (ra HO_6.out) (Kd.R_base ho0) hb) (Kd.R_lower (Kd.R_new' (Kd.R_new' ho0 (Kd.R_lt (ra HO_5.out))) (Kd.R_lt (ra HO_6.out))) (below_size (bl HB))) (below_step (bl HB) hb); clear HO_5 HO_6 HB; obtain ⟨HO_5, HO_6, HO330, HB⟩ := n_; (try clear hb); (try clear hb2); (try clear hk); (try clear hi); (try clear ho0)))
           go_roundg kj26
           case measure => have := HJ13.out; have := HK2.out; have := HJ26.out; omega
           case rel => exact ⟨(t328), (x6_2), H', ⟨by have := HJ13.out; have := HK2.out; have := HJ26.out; omega⟩, ⟨ra (Kd.R_mono HO330.out (fun _ hk => hk.2))⟩, ⟨ra (Kd.R_mono HO_6.out (fun _ hk => hk.2))⟩, ⟨bl HB⟩⟩
         ·replace c32 := Bool.eq_false_iff.mpr c32
          subst c32
          have H1 : ((sibylref01_Plus.f kj26 x5_2 x6_2).bind fun t310 => ((sibylref01_Shl.f kj26 t310 x7_13).bind fun t313 => (some t313))) = some r := by rw [if_neg (show ¬ (false = true) by decide)] at H; exact H
          clear H
          have H := H1
          clear H1
          obtain ⟨t310, A56, H⟩ := bindA H
          obtain ⟨t313, A57, H⟩ := bindA H
          obtain rfl := Option.some.inj H
          obtain ⟨Ao58, co58, eo58⟩ := Kd.R_slice HO_5.out
          subst eo58
          obtain ⟨Ao59, co59, eo59⟩ := Kd.R_slice HO_6.out
          subst eo59
          go_wp2_with (first | ((with_reducible refine gate_callee (f := 72) rfl ?_); refine goesM (some 68) rfl rfl Try.func72 (by kernel_rfl) rfl #[.slice Ao58 x5_2.length co58, .slice Ao59 x6_2.length co59] rfl (by rfl) ?_; (with_reducible refine (sibylref01_Plus.calls kj26 _ _ x5_2 _ _ x6_2 t310 _ ?side1 ?side2 ?side3 ?side4 A56.out).mono ?_); (case side1 => exact ca ((Kd.R_reads' HO_5.out).2.2)); (case side2 => exact (Kd.R_reads' HO_5.out).2.1); (case side3 => exact ca ((Kd.R_reads' HO_6.out).2.2)); (case side4 => exact (Kd.R_reads' HO_6.out).2.1); rintro e w60 ⟨v311, rfl, ho0, hb⟩; refine ⟨_, rfl, ?_⟩; have n_ := mk4 (Kd.R_elder' (ra HO_5.out) (Kd.R_base ho0) hb) (Kd.R_elder' (ra HO_6.out) (Kd.R_base ho0) hb) (Kd.R_lower (Kd.R_new' (Kd.R_new' ho0 (Kd.R_lt (ra HO_5.out))) (Kd.R_lt (ra HO_6.out))) (below_size (bl HB))) (below_step (bl HB) hb); clear HO_5 HO_6 HB; obtain ⟨HO_5, HO_6, HO312, HB⟩ := n_; (try clear hb); (try clear hb2); (try clear hk); (try clear hi); (try clear ho0); obtain ⟨Ao61, co61, eo61⟩ := Kd.R_slice HO312.out; subst eo61) | ((with_reducible refine gate_callee (f := 69) rfl ?_); refine goesM (some 70) rfl rfl Try.func69 (by kernel_rfl) rfl #[.slice Ao61 t310.length co61, .int .i64 x7_13] rfl (by rfl) ?_; (with_reducible refine (sibylref01_Shl.calls kj26 _ _ t310 x7_13 t313 _ ?side1 ?side2 A57.out).mono ?_); (case side1 => exact ca ((Kd.R_reads' HO312.out).2.2)); (case side2 => exact (Kd.R_reads' HO312.out).2.1); rintro e w62 ⟨v314, rfl, ho0, hb⟩; refine ⟨_, rfl, ?_⟩; have n_ := mk5 (Kd.R_elder' (ra HO_5.out) (Kd.R_base ho0) hb) (Kd.R_elder' (ra HO_6.out) (Kd.R_base ho0) hb) (Kd.R_elder' (ra HO312.out) (Kd.R_base ho0) hb) (Kd.R_lower (Kd.R_new' (Kd.R_new' (Kd.R_new' ho0 (Kd.R_lt (ra HO_5.out))) (Kd.R_lt (ra HO_6.out))) (Kd.R_lt (ra HO312.out))) (below_size (bl HB))) (below_step (bl HB) hb); clear HO_5 HO_6 HO312 HB; obtain ⟨HO_5, HO_6, HO312, HO315, HB⟩ := n_; (try clear hb); (try clear hb2); (try clear hk); (try clear hi); (try clear ho0)))
          go_ret
          exact ⟨_, by first | rfl | simp [*], ra (Kd.R_mono HO315.out (fun _ hk => trivial)), bl HB⟩
def sibylref02_Form.j0 : Nat → Bool → Bool → List Int → List Int → Option (Bool)
 | 0, _, _, _, _ => none
 | k + 1, x28, x332000, x332001, x332002 => if x28 = true then (some false) else ((sibylref01_Common.f k x332001 x332002).bind fun t334 => ((sibylref01_Same.f k t334 (([1] : List Int))).bind fun t340 => (some t340)))
def sibylref02_Form.f (k : Nat) (a0_0 : Bool) (l0_1 : List Int) (l0_2 : List Int) : Option (Bool) := (sibylref01_Form.f l0_1).bind fun t332 => (if t332 = true then ((sibylref01_Form.f l0_2).bind fun t333 => (if t333 = true then (if (l0_2.length : Int) = 0 then (sibylref02_Form.j0 k true a0_0 l0_1 l0_2) else (if a0_0 = true then (sibylref02_Form.j0 k ((l0_1.length : Int) == 0) a0_0 l0_1 l0_2) else (sibylref02_Form.j0 k false a0_0 l0_1 l0_2))) else (sibylref02_Form.j0 k true a0_0 l0_1 l0_2))) else (sibylref02_Form.j0 k true a0_0 l0_1 l0_2))
set_option maxHeartbeats 8000000 in
set_option maxRecDepth 100000 in
theorem sibylref02_Form.calls (k : Nat) (a0_0 : Bool) (A0_1 : Option Addr) (c0_1 : Nat) (l0_1 : List Int) (A0_2 : Option Addr) (c0_2 : Nat) (l0_2 : List Int) (r : Bool) (w : World) (hr0_1 : Kd.C (Kd.int .u32) w A0_1 l0_1.length l0_1) (hc0_1 : l0_1.length ≤ c0_1) (hr0_2 : Kd.C (Kd.int .u32) w A0_2 l0_2.length l0_2) (hc0_2 : l0_2.length ≤ c0_2) (h : sibylref02_Form.f k a0_0 l0_1 l0_2 = some r) :
  Calls Try.prog 53 #[.agg #[.bool a0_0, .slice A0_1 l0_1.length c0_1, .slice A0_2 l0_2.length c0_2]] w fun e w' => e = .returned (.bool r) ∧ Below w.heap.size w w' := by
 have hu36 := Try.underlying36
 have HR0_1 := Aside0.mk hr0_1
 have HC0_1 := Aside0.mk hc0_1
 clear hr0_1 hc0_1
 have HR0_2 := Aside0.mk hr0_2
 have HC0_2 := Aside0.mk hc0_2
 clear hr0_2 hc0_2
 have HB := Aside0.mk (Below.refl w.heap.size w)
 have H : ((sibylref01_Form.f l0_1).bind fun t332 => (if t332 = true then ((sibylref01_Form.f l0_2).bind fun t333 => (if t333 = true then (if (l0_2.length : Int) = 0 then (sibylref02_Form.j0 k true a0_0 l0_1 l0_2) else (if a0_0 = true then (sibylref02_Form.j0 k ((l0_1.length : Int) == 0) a0_0 l0_1 l0_2) else (sibylref02_Form.j0 k false a0_0 l0_1 l0_2))) else (sibylref02_Form.j0 k true a0_0 l0_1 l0_2))) else (sibylref02_Form.j0 k true a0_0 l0_1 l0_2))) = some r := h
 clear h
 have HC2 := Aside0.mk H
 clear H
 go_enter Try.func53, Try.ntmps53
 go_upto_region 1 with (first | ((with_reducible refine gate_dst (N := 1) rfl ?_); (try (refine gate_guard (by rfl) ?_; dsimp only)); refine box_event ?hg (N := 1) ?hd (cs := #[.bool a0_0, .slice A0_1 l0_1.length c0_1, .slice A0_2 l0_2.length c0_2]) (t := 36) ?hr ?_; (case hd => rfl); (case hg => rfl); (case hr => first | (go_simp; done) | (go_simp; rfl)); intro gb331 hg w3 hbox hb; have n_ := mk4 (below_step (bl HB) hb) (hbox) ((by rw [hg]; exact (below_size (bl HB)) : w.heap.size ≤ gb331)) ((by rw [hg]; exact (below_size (bl HB)) : w.heap.size ≤ gb331)); clear HB; obtain ⟨HB, BK331, GW331, GE331⟩ := n_; clear hb hbox hg))
 (try simp only [Act.put, List.setIfInBounds_toArray, List.set_cons_zero, List.set_cons_succ])
 go_cut [28] (fun v28 wc => ∃ (kq : Nat) (x28_1 : Bool), v28 = .bool x28_1 ∧ Aside0 (sibylref02_Form.j0 kq x28_1 a0_0 l0_1 l0_2 = some r) ∧ Aside0 (kq ≤ k) ∧ Aside0 (wc.heap[gb331]? = some (.cells #[.bool a0_0, (.slice A0_1 l0_1.length c0_1), (.slice A0_2 l0_2.length c0_2)] 36 (0, 0))) ∧ Aside0 (Below w.heap.size w wc))
 case first =>
  have H := HC2.out
  clear HC2
  obtain ⟨t332, A4, H⟩ := bindA H
  by_cases c5 : t332 = true
  ·subst c5
   have H1 : ((sibylref01_Form.f l0_2).bind fun t333 => (if t333 = true then (if (l0_2.length : Int) = 0 then (sibylref02_Form.j0 k true a0_0 l0_1 l0_2) else (if a0_0 = true then (sibylref02_Form.j0 k ((l0_1.length : Int) == 0) a0_0 l0_1 l0_2) else (sibylref02_Form.j0 k false a0_0 l0_1 l0_2))) else (sibylref02_Form.j0 k true a0_0 l0_1 l0_2))) = some r := by rw [if_pos rfl] at H; exact H
   clear H
   have H := H1
   clear H1
   obtain ⟨t333, A6, H⟩ := bindA H
   by_cases c7 : t333 = true
   ·subst c7
    have H1 : (if (l0_2.length : Int) = 0 then (sibylref02_Form.j0 k true a0_0 l0_1 l0_2) else (if a0_0 = true then (sibylref02_Form.j0 k ((l0_1.length : Int) == 0) a0_0 l0_1 l0_2) else (sibylref02_Form.j0 k false a0_0 l0_1 l0_2))) = some r := by rw [if_pos rfl] at H; exact H
    clear H
    have H := H1
    clear H1
    by_cases c8 : (l0_2.length : Int) = 0
    ·rw [if_pos c8] at H
     have c8b0 : ((l0_2.length : Int) == 0) = true := beq_iff_eq.mpr c8
     have c8b1 : ((l0_2.length : Int) != 0) = false := bne_eq_false_iff_eq.mpr c8
     clear c8
     (first | rw [c8b0] | (simp only [i64_w, i32_w]; rw [c8b0]) | skip)
     have H' := Aside0.mk H
     clear H
     have hcz9_0 : w3.cell? ⟨gb331, 0, none⟩ = some (.bool a0_0) := (blk_cell BK331.out 0).trans rfl
     have hcz9_1 : w3.cell? ⟨gb331, 1, none⟩ = some (.slice A0_1 l0_1.length c0_1) := (blk_cell BK331.out 1).trans rfl
     have hcz9_2 : w3.cell? ⟨gb331, 2, none⟩ = some (.slice A0_2 l0_2.length c0_2) := (blk_cell BK331.out 2).trans rfl
     have hfz9_0 := blk_frozen BK331.out 0
     have hfz9_1 := blk_frozen BK331.out 1
     have hfz9_2 := blk_frozen BK331.out 2
     go_wp2_with (first | ((with_reducible refine gate_callee (f := 80) rfl ?_); refine goesM (some 5) rfl rfl Try.func80 (by kernel_rfl) rfl #[.slice A0_1 l0_1.length c0_1] rfl (by rfl) ?_; (with_reducible refine (sibylref01_Form.calls _ _ l0_1 true _ ?side1 ?side2 A4.out).mono ?_); (case side1 => exact ca (Kd.C_below HR0_1.out HB.out)); (case side2 => exact HC0_1.out); rintro e w' ⟨rfl, ⟨nd, rfl⟩⟩; refine ⟨_, rfl, ?_⟩) | (go_at_call 80; (with_reducible refine (sibylref01_Form.calls _ _ l0_2 true _ ?side1 ?side2 A6.out).mono ?_); (case side1 => exact (Kd.C_below HR0_2.out (bl1 HB GE331))); (case side2 => exact HC0_2.out); rintro e w' ⟨rfl, ⟨nd, rfl⟩⟩))
     go_meet
     case rel => exact ⟨_, (true), (by first | rfl | (simp; done) | (simp [*]; done)), H', ⟨by first | omega | exact Nat.le_refl _⟩, ⟨ba BK331.out⟩, ⟨bl1 HB GE331⟩⟩
    ·rw [if_neg c8] at H
     have c8b0 : ((l0_2.length : Int) == 0) = false := beq_eq_false_iff_ne.mpr c8
     have c8b1 : ((l0_2.length : Int) != 0) = true := bne_iff_ne.mpr c8
     have c8b2 : ¬ (l0_2 = []) := fun h_ => c8 (by rw [h_]; rfl)
     (first | rw [c8b0] | (simp only [i64_w, i32_w]; rw [c8b0]) | skip)
     by_cases c10 : a0_0 = true
     ·subst c10
      have H1 : (sibylref02_Form.j0 k ((l0_1.length : Int) == 0) true l0_1 l0_2) = some r := by rw [if_pos rfl] at H; exact H
      clear H
      have H := H1
      clear H1
      have H' := Aside0.mk H
      clear H
      have hcz11_0 : w3.cell? ⟨gb331, 0, none⟩ = some (.bool true) := (blk_cell BK331.out 0).trans rfl
      have hcz11_1 : w3.cell? ⟨gb331, 1, none⟩ = some (.slice A0_1 l0_1.length c0_1) := (blk_cell BK331.out 1).trans rfl
      have hcz11_2 : w3.cell? ⟨gb331, 2, none⟩ = some (.slice A0_2 l0_2.length c0_2) := (blk_cell BK331.out 2).trans rfl
      have hfz11_0 := blk_frozen BK331.out 0
      have hfz11_1 := blk_frozen BK331.out 1
      have hfz11_2 := blk_frozen BK331.out 2
      go_wp2_with (first | ((with_reducible refine gate_callee (f := 80) rfl ?_); refine goesM (some 5) rfl rfl Try.func80 (by kernel_rfl) rfl #[.slice A0_1 l0_1.length c0_1] rfl (by rfl) ?_; (with_reducible refine (sibylref01_Form.calls _ _ l0_1 true _ ?side1 ?side2 A4.out).mono ?_); (case side1 => exact ca (Kd.C_below HR0_1.out HB.out)); (case side2 => exact HC0_1.out); rintro e w' ⟨rfl, ⟨nd, rfl⟩⟩; refine ⟨_, rfl, ?_⟩) | (go_at_call 80; (with_reducible refine (sibylref01_Form.calls _ _ l0_2 true _ ?side1 ?side2 A6.out).mono ?_); (case side1 => exact (Kd.C_below HR0_2.out (bl1 HB GE331))); (case side2 => exact HC0_2.out); rintro e w' ⟨rfl, ⟨nd, rfl⟩⟩))
      go_meet
      case rel => exact ⟨_, (((l0_1.length : Int) == 0)), (by first | rfl | (simp; done) | (simp [*]; done)), H', ⟨by first | omega | exact Nat.le_refl _⟩, ⟨ba BK331.out⟩, ⟨bl1 HB GE331⟩⟩
     ·replace c10 := Bool.eq_false_iff.mpr c10
      subst c10
      have H1 : (sibylref02_Form.j0 k false false l0_1 l0_2) = some r := by rw [if_neg (show ¬ (false = true) by decide)] at H; exact H
      clear H
      have H := H1
      clear H1
      have H' := Aside0.mk H
      clear H
      have hcz12_0 : w3.cell? ⟨gb331, 0, none⟩ = some (.bool false) := (blk_cell BK331.out 0).trans rfl
      have hcz12_1 : w3.cell? ⟨gb331, 1, none⟩ = some (.slice A0_1 l0_1.length c0_1) := (blk_cell BK331.out 1).trans rfl
      have hcz12_2 : w3.cell? ⟨gb331, 2, none⟩ = some (.slice A0_2 l0_2.length c0_2) := (blk_cell BK331.out 2).trans rfl
      have hfz12_0 := blk_frozen BK331.out 0
      have hfz12_1 := blk_frozen BK331.out 1
      have hfz12_2 := blk_frozen BK331.out 2
      go_wp2_with (first | ((with_reducible refine gate_callee (f := 80) rfl ?_); refine goesM (some 5) rfl rfl Try.func80 (by kernel_rfl) rfl #[.slice A0_1 l0_1.length c0_1] rfl (by rfl) ?_; (with_reducible refine (sibylref01_Form.calls _ _ l0_1 true _ ?side1 ?side2 A4.out).mono ?_); (case side1 => exact ca (Kd.C_below HR0_1.out HB.out)); (case side2 => exact HC0_1.out); rintro e w' ⟨rfl, ⟨nd, rfl⟩⟩; refine ⟨_, rfl, ?_⟩) | (go_at_call 80; (with_reducible refine (sibylref01_Form.calls _ _ l0_2 true _ ?side1 ?side2 A6.out).mono ?_); (case side1 => exact (Kd.C_below HR0_2.out (bl1 HB GE331))); (case side2 => exact HC0_2.out); rintro e w' ⟨rfl, ⟨nd, rfl⟩⟩))
      go_meet
      case rel => exact ⟨_, (false), (by first | rfl | (simp; done) | (simp [*]; done)), H', ⟨by first | omega | exact Nat.le_refl _⟩, ⟨ba BK331.out⟩, ⟨bl1 HB GE331⟩⟩
   ·replace c7 := Bool.eq_false_iff.mpr c7
    subst c7
    have H1 : (sibylref02_Form.j0 k true a0_0 l0_1 l0_2) = some r := by rw [if_neg (show ¬ (false = true) by decide)] at H; exact H
    clear H
    have H := H1
    clear H1
    have H' := Aside0.mk H
    clear H
    have hcz13_0 : w3.cell? ⟨gb331, 0, none⟩ = some (.bool a0_0) := (blk_cell BK331.out 0).trans rfl
    have hcz13_1 : w3.cell? ⟨gb331, 1, none⟩ = some (.slice A0_1 l0_1.length c0_1) := (blk_cell BK331.out 1).trans rfl
    have hcz13_2 : w3.cell? ⟨gb331, 2, none⟩ = some (.slice A0_2 l0_2.length c0_2) := (blk_cell BK331.out 2).trans rfl
    have hfz13_0 := blk_frozen BK331.out 0
    have hfz13_1 := blk_frozen BK331.out 1
    have hfz13_2 := blk_frozen BK331.out 2
    go_wp2_with (first | ((with_reducible refine gate_callee (f := 80) rfl ?_); refine goesM (some 5) rfl rfl Try.func80 (by kernel_rfl) rfl #[.slice A0_1 l0_1.length c0_1] rfl (by rfl) ?_; (with_reducible refine (sibylref01_Form.calls _ _ l0_1 true _ ?side1 ?side2 A4.out).mono ?_); (case side1 => exact ca (Kd.C_below HR0_1.out HB.out)); (case side2 => exact HC0_1.out); rintro e w' ⟨rfl, ⟨nd, rfl⟩⟩; refine ⟨_, rfl, ?_⟩) | (go_at_call 80; (with_reducible refine (sibylref01_Form.calls _ _ l0_2 false _ ?side1 ?side2 A6.out).mono ?_); (case side1 => exact (Kd.C_below HR0_2.out (bl1 HB GE331))); (case side2 => exact HC0_2.out); rintro e w' ⟨rfl, ⟨nd, rfl⟩⟩))
    go_meet
    case rel => exact ⟨_, (true), (by first | rfl | (simp; done) | (simp [*]; done)), H', ⟨by first | omega | exact Nat.le_refl _⟩, ⟨ba BK331.out⟩, ⟨bl1 HB GE331⟩⟩
  ·replace c5 := Bool.eq_false_iff.mpr c5
   subst c5
   have H1 : (sibylref02_Form.j0 k true a0_0 l0_1 l0_2) = some r := by rw [if_neg (show ¬ (false = true) by decide)] at H; exact H
   clear H
   have H := H1
   clear H1
   have H' := Aside0.mk H
   clear H
   have hcz14_0 : w3.cell? ⟨gb331, 0, none⟩ = some (.bool a0_0) := (blk_cell BK331.out 0).trans rfl
   have hcz14_1 : w3.cell? ⟨gb331, 1, none⟩ = some (.slice A0_1 l0_1.length c0_1) := (blk_cell BK331.out 1).trans rfl
   have hcz14_2 : w3.cell? ⟨gb331, 2, none⟩ = some (.slice A0_2 l0_2.length c0_2) := (blk_cell BK331.out 2).trans rfl
   have hfz14_0 := blk_frozen BK331.out 0
   have hfz14_1 := blk_frozen BK331.out 1
   have hfz14_2 := blk_frozen BK331.out 2
   go_wp2_with (first | ((with_reducible refine gate_callee (f := 80) rfl ?_); refine goesM (some 5) rfl rfl Try.func80 (by kernel_rfl) rfl #[.slice A0_1 l0_1.length c0_1] rfl (by rfl) ?_; (with_reducible refine (sibylref01_Form.calls _ _ l0_1 false _ ?side1 ?side2 A4.out).mono ?_); (case side1 => exact ca (Kd.C_below HR0_1.out HB.out)); (case side2 => exact HC0_1.out); rintro e w' ⟨rfl, ⟨nd, rfl⟩⟩; refine ⟨_, rfl, ?_⟩))
   go_meet
   case rel => exact ⟨_, (true), (by first | rfl | (simp; done) | (simp [*]; done)), H', ⟨by first | omega | exact Nat.le_refl _⟩, ⟨ba BK331.out⟩, ⟨bl1 HB GE331⟩⟩
 case rest =>
  clear HC2
  try clear c1
  try clear p2
  try clear c5
  try clear c7
  try clear c8
  try clear c8b0
  try clear c8b1
  try clear c8b2
  try clear c10
  try clear hcz11_0
  try clear hcz11_1
  try clear hcz11_2
  try clear hcz12_0
  try clear hcz12_1
  try clear hcz12_2
  try clear hcz13_0
  try clear hcz13_1
  try clear hcz13_2
  try clear hcz14_0
  try clear hcz14_1
  try clear hcz14_2
  try clear hcz9_0
  try clear hcz9_1
  try clear hcz9_2
  try clear hfz11_0
  try clear hfz11_1
  try clear hfz11_2
  try clear hfz12_0
  try clear hfz12_1
  try clear hfz12_2
  try clear hfz13_0
  try clear hfz13_1
  try clear hfz13_2
  try clear hfz14_0
  try clear hfz14_1
  try clear hfz14_2
  try clear hfz9_0
  try clear hfz9_1
  try clear hfz9_2
  obtain ⟨kq, x28_1, rfl, HA, HJ1, BK331, HB⟩ := hcut
  cases kq with
  | zero => exact absurd HA.out (by simp [sibylref02_Form.j0])
  | succ kj1 =>
   have H := HA.out
   clear HA
   simp only [sibylref02_Form.j0] at H
   by_cases c15 : x28_1 = true
   ·subst c15
    have H1 : (some false) = some r := by rw [if_pos rfl] at H; exact H
    clear H
    have H := H1
    clear H1
    obtain rfl := Option.some.inj H
    go_wp2
    go_ret
    exact ⟨by first | rfl | simp [*], bl1 HB GE331⟩
   ·replace c15 := Bool.eq_false_iff.mpr c15
    subst c15
    have H1 : ((sibylref01_Common.f kj1 l0_1 l0_2).bind fun t334 => ((sibylref01_Same.f kj1 t334 (([1] : List Int))).bind fun t340 => (some t340))) = some r := by rw [if_neg (show ¬ (false = true) by decide)] at H; exact H
    clear H
    have H := H1
    clear H1
    obtain ⟨t334, A16, H⟩ := bindA H
    obtain ⟨y337, hy337⟩ : ∃ y_ : List Int, y_ = (([1] : List Int)) := ⟨_, rfl⟩
    replace H : ((sibylref01_Same.f kj1 t334 y337).bind fun t340 => (some t340)) = some r := by rw [hy337]; exact H
    have Ny337 := Aside0.mk hy337
    clear hy337
    obtain ⟨t340, A17, H⟩ := bindA H
    obtain rfl := Option.some.inj H
    have hcz18_0 : wc.cell? ⟨gb331, 0, none⟩ = some (.bool a0_0) := (blk_cell BK331.out 0).trans rfl
    have hcz18_1 : wc.cell? ⟨gb331, 1, none⟩ = some (.slice A0_1 l0_1.length c0_1) := (blk_cell BK331.out 1).trans rfl
    have hcz18_2 : wc.cell? ⟨gb331, 2, none⟩ = some (.slice A0_2 l0_2.length c0_2) := (blk_cell BK331.out 2).trans rfl
    have hfz18_0 := blk_frozen BK331.out 0
    have hfz18_1 := blk_frozen BK331.out 1
    have hfz18_2 := blk_frozen BK331.out 2
    go_wp2_with (first | ((with_reducible refine gate_callee (f := 81) rfl ?_); refine goesM (some 33) rfl rfl Try.func81 (by kernel_rfl) rfl #[.slice A0_1 l0_1.length c0_1, .slice A0_2 l0_2.length c0_2] rfl (by rfl) ?_; (with_reducible refine (sibylref01_Common.calls kj1 _ _ l0_1 _ _ l0_2 t334 _ ?side1 ?side2 ?side3 ?side4 A16.out).mono ?_); (case side1 => exact ca (Kd.C_below HR0_1.out HB.out)); (case side2 => exact HC0_1.out); (case side3 => exact ca (Kd.C_below HR0_2.out HB.out)); (case side4 => exact HC0_2.out); rintro e w19 ⟨v335, rfl, ho0, hb⟩; refine ⟨_, rfl, ?_⟩; have n_ := mk3 (Kd.R_lower ho0 (below_size (bl1 HB GE331))) (blk_below (ba BK331.out) hb) (below_step (bl1 HB GE331) hb); clear BK331 HB; obtain ⟨HO336, BK331, HB⟩ := n_; (try clear hb); (try clear hb2); (try clear hk); (try clear hi); (try clear ho0)) | ((with_reducible refine gate_dst (N := 34) rfl ?_); (try (refine gate_guard (by rfl) ?_; dsimp only)); refine Kd.R_lit (Kd.int .u32) _ 99 ?hg (N := 34) ?hd (xs := ([1] : List Int)) (inner := [.int .u32 1]) (ok := fun _ => True) (okp := fun _ => True) ?hr ?hp (fun _ hk => hk) trivial (Below.refl _ _) (Nat.le_refl _) (by simp) ?_; (case hd => rfl); (case hg => rfl); (case hr => first | (go_simp; done) | (go_simp; rfl)); (case hp => exact (Reps.one (show Kd.M (Kd.int .u32) _ _ _ 1 [.int .u32 1] from rfl) (Reps.none _ _))); intro v338 w20 ho21 hb hg_ hnew_; clear hg_ hnew_; (first | rw [← Ny337.out] at ho21 | (simp only [Int.reduceToNat] at ho21; rw [← Ny337.out] at ho21)); have n_ := mk4 (Kd.R_elder' (ra HO336.out) (Kd.R_base ho21) hb) (Kd.R_lower (Kd.R_new' ho21 (Kd.R_lt (ra HO336.out))) (below_size (bl1 HB GE331))) (blk_below (ba BK331.out) hb) (below_step (bl1 HB GE331) hb); clear HO336 BK331 HB; obtain ⟨HO336, HO339, BK331, HB⟩ := n_; clear hb ho21; obtain ⟨Ao22, co22, eo22⟩ := Kd.R_slice HO336.out; subst eo22; obtain ⟨Ao23, co23, eo23⟩ := Kd.R_slice HO339.out; subst eo23) | ((with_reducible refine gate_callee (f := 36) rfl ?_); refine goesM (some 35) rfl rfl Try.func36 (by kernel_rfl) rfl #[.slice Ao22 t334.length co22, .slice Ao23 y337.length co23] rfl (by rfl) ?_; (with_reducible refine (sibylref01_Same.calls kj1 _ _ t334 _ _ y337 t340 _ ?side1 ?side2 ?side3 ?side4 A17.out).mono ?_); (case side1 => exact ca ((Kd.R_reads' HO336.out).2.2)); (case side2 => exact (Kd.R_reads' HO336.out).2.1); (case side3 => exact ca ((Kd.R_reads' HO339.out).2.2)); (case side4 => exact (Kd.R_reads' HO339.out).2.1); rintro e w' ⟨rfl, ⟨nd, rfl⟩⟩; refine ⟨_, rfl, ?_⟩))
    go_ret
    exact ⟨by first | rfl | simp [*], bl1 HB GE331⟩
def sibylref01_Fit.f (k : Nat) (l0 : List Int) : Option (List Int × Int) := (sibylref01_Trim.f k l0).bind fun t341 => (if (t341.length : Int) > 16 then (some (([] : List Int), 4)) else (some (t341, 0)))
set_option maxHeartbeats 8000000 in
set_option maxRecDepth 100000 in
theorem sibylref01_Fit.calls (k : Nat) (A0 : Option Addr) (c0 : Nat) (l0 : List Int) (r1 : List Int) (r2 : Int) (w : World) (hr0 : Kd.C (Kd.int .u32) w A0 l0.length l0) (hc0 : l0.length ≤ c0) (h : sibylref01_Fit.f k l0 = some (r1, r2)) :
  Calls Try.prog 82 #[.slice A0 l0.length c0] w fun e w' => ∃ v0_ : Value, e = .returned (.tuple #[v0_, .int .i64 r2]) ∧ Kd.R (Kd.int .u32) 99 w' w.heap.size (fun _ => True) v0_ r1 ∧ Below w.heap.size w w' := by
 have HR0 := Aside0.mk hr0
 have HC0 := Aside0.mk hc0
 clear hr0 hc0
 have HB := Aside0.mk (Below.refl w.heap.size w)
 have H : ((sibylref01_Trim.f k l0).bind fun t341 => (if (t341.length : Int) > 16 then (some (([] : List Int), 4)) else (some (t341, 0)))) = some (r1, r2) := h
 clear h
 obtain ⟨t341, A2, H⟩ := bindA H
 by_cases c3 : (t341.length : Int) > 16
 ·rw [if_pos c3] at H
  have c3b0 : decide (16 < (t341.length : Int)) = true := decide_eq_true c3
  have c3b1 : decide (16 < t341.length) = true := decide_eq_true (by omega)
  clear c3
  simp only [Option.some.injEq, Prod.mk.injEq] at H
  obtain ⟨rfl, rfl⟩ := H
  go_enter Try.func82, Try.ntmps82
  go_wp2_with (first | ((with_reducible refine gate_callee (f := 83) rfl ?_); refine goesM (some 6) rfl rfl Try.func83 (by kernel_rfl) rfl #[.slice A0 l0.length c0] rfl (by rfl) ?_; (with_reducible refine (sibylref01_Trim.calls k _ _ l0 t341 _ ?side1 ?side2 A2.out).mono ?_); (case side1 => exact ca HR0.out); (case side2 => exact HC0.out); rintro e w4 ⟨v342, rfl, ho0, hb⟩; refine ⟨_, rfl, ?_⟩; have n_ := mk2 (Kd.R_lower ho0 (below_size (bl HB))) (below_step (bl HB) hb); clear HB; obtain ⟨HO343, HB⟩ := n_; (try clear hb); (try clear hb2); (try clear hk); (try clear hi); (try clear ho0); obtain ⟨Ao5, co5, eo5⟩ := Kd.R_slice HO343.out; subst eo5))
  go_ret2
  exact ⟨_, by first | rfl | simp [*], by first | exact Kd.R_nil _ _ _ _ _ | exact Kd.V_nil _ _ _ _ _, bl HB⟩
 ·rw [if_neg c3] at H
  have c3b0 : decide (16 < (t341.length : Int)) = false := decide_eq_false c3
  have c3b1 : decide (16 < t341.length) = false := decide_eq_false (by omega)
  clear c3
  simp only [Option.some.injEq, Prod.mk.injEq] at H
  obtain ⟨rfl, rfl⟩ := H
  go_enter Try.func82, Try.ntmps82
  go_wp2_with (first | ((with_reducible refine gate_callee (f := 83) rfl ?_); refine goesM (some 6) rfl rfl Try.func83 (by kernel_rfl) rfl #[.slice A0 l0.length c0] rfl (by rfl) ?_; (with_reducible refine (sibylref01_Trim.calls k _ _ l0 t341 _ ?side1 ?side2 A2.out).mono ?_); (case side1 => exact ca HR0.out); (case side2 => exact HC0.out); rintro e w6 ⟨v342, rfl, ho0, hb⟩; refine ⟨_, rfl, ?_⟩; have n_ := mk2 (Kd.R_lower ho0 (below_size (bl HB))) (below_step (bl HB) hb); clear HB; obtain ⟨HO343, HB⟩ := n_; (try clear hb); (try clear hb2); (try clear hk); (try clear hi); (try clear ho0); obtain ⟨Ao7, co7, eo7⟩ := Kd.R_slice HO343.out; subst eo7))
  go_ret2
  exact ⟨_, by first | rfl | simp [*], ra HO343.out, bl HB⟩
mutual
def sibylref01_Text.l0 : Nat → List Int → ByteArray → Option (ByteArray × Int)
 | 0, _, _ => none
 | k + 1, x4, x6 => if (x4.length : Int) > 0 then (sibylref01_Text.l1 k x4 x6 0 (wrap64 ((x4.length : Int) - 1))) else (some (x6, 0))
def sibylref01_Text.l1 : Nat → List Int → ByteArray → Int → Int → Option (ByteArray × Int)
 | 0, _, _, _, _ => none
 | k + 1, x4, x6, x7, x8 => if x8 ≥ 0 then (if 0 ≤ x8 then (if x8 < (x4.length : Int) then (sibylref01_Text.l1 k (x4.set (x8 : Int).toNat ((IntKind.u64.wrap (Int.tdiv (IntKind.u64.wrap ((IntKind.u64.wrap (x7 * 4294967296)) + (IntKind.u64.wrap (rd x4 x8)))) 10)) % 4294967296)) x6 (Int.tmod (IntKind.u64.wrap ((IntKind.u64.wrap (x7 * 4294967296)) + (IntKind.u64.wrap (rd x4 x8)))) 10) (wrap64 (x8 - 1))) else (none)) else (none)) else (if 0 ≤ x7 then (if x7 ≤ (IntKind.u64.wrap (x7 + 1)) then (if (IntKind.u64.wrap (x7 + 1)) ≤ 10 then (if ((⟨#[48, 49, 50, 51, 52, 53, 54, 55, 56, 57]⟩ : ByteArray).extract (x7 : Int).toNat ((IntKind.u64.wrap (x7 + 1)) : Int).toNat).size + x6.size ≤ 9223372036854775807 then ((sibylref01_Trim.f k x4).bind fun t350 => (sibylref01_Text.l0 k t350 (((⟨#[48, 49, 50, 51, 52, 53, 54, 55, 56, 57]⟩ : ByteArray).extract (x7 : Int).toNat ((IntKind.u64.wrap (x7 + 1)) : Int).toNat) ++ x6))) else (none)) else (none)) else (none)) else (none))
end
def sibylref01_Text.f (k : Nat) (l0 : List Int) : Option (ByteArray × Int) := (sibylref01_Fit.f k l0).bind fun bt344 => (if bt344.2 = 0 then (if (bt344.1.length : Int) = 0 then (some ((⟨#[48]⟩ : ByteArray), 0)) else (sibylref01_Text.l0 k bt344.1 (⟨#[]⟩ : ByteArray))) else (some ((⟨#[]⟩ : ByteArray), bt344.2)))
set_option maxHeartbeats 8000000 in
set_option maxRecDepth 100000 in
theorem sibylref01_Text.calls (k : Nat) (A0 : Option Addr) (c0 : Nat) (l0 : List Int) (r1 : ByteArray) (r2 : Int) (w : World) (hr0 : Kd.C (Kd.int .u32) w A0 l0.length l0) (hc0 : l0.length ≤ c0) (h : sibylref01_Text.f k l0 = some (r1, r2)) :
  Calls Try.prog 54 #[.slice A0 l0.length c0] w fun e w' => e = .returned (.tuple #[.string r1, .int .i64 r2]) ∧ Below w.heap.size w w' := by
 have HR0 := Aside0.mk hr0
 have HC0 := Aside0.mk hc0
 clear hr0 hc0
 have HB := Aside0.mk (Below.refl w.heap.size w)
 have H : ((sibylref01_Fit.f k l0).bind fun bt344 => (if bt344.2 = 0 then (if (bt344.1.length : Int) = 0 then (some ((⟨#[48]⟩ : ByteArray), 0)) else (sibylref01_Text.l0 k bt344.1 (⟨#[]⟩ : ByteArray))) else (some ((⟨#[]⟩ : ByteArray), bt344.2)))) = some (r1, r2) := h
 clear h
 obtain ⟨⟨t344, t345⟩, A2, H⟩ := bindA H
 dsimp only at H
 by_cases c3 : t345 = 0
 ·rw [if_pos c3] at H
  have c3b0 : (t345 == 0) = true := beq_iff_eq.mpr c3
  have c3b1 : (t345 != 0) = false := bne_eq_false_iff_eq.mpr c3
  clear c3
  by_cases c4 : (t344.length : Int) = 0
  ·rw [if_pos c4] at H
   have c4b0 : ((t344.length : Int) == 0) = true := beq_iff_eq.mpr c4
   have c4b1 : ((t344.length : Int) != 0) = false := bne_eq_false_iff_eq.mpr c4
   clear c4
   simp only [Option.some.injEq, Prod.mk.injEq] at H
   obtain ⟨rfl, rfl⟩ := H
   go_enter Try.func54, Try.ntmps54
   go_wp2_with (first | ((with_reducible refine gate_callee (f := 82) rfl ?_); refine goesM (some 12) rfl rfl Try.func82 (by kernel_rfl) rfl #[.slice A0 l0.length c0] rfl (by rfl) ?_; (with_reducible refine (sibylref01_Fit.calls k _ _ l0 t344 t345 _ ?side1 ?side2 A2.out).mono ?_); (case side1 => exact ca HR0.out); (case side2 => exact HC0.out); rintro e w5 ⟨v346, rfl, ho0, hb⟩; refine ⟨_, rfl, ?_⟩; have n_ := mk2 (Kd.R_lower ho0 (below_size (bl HB))) (below_step (bl HB) hb); clear HB; obtain ⟨HO347, HB⟩ := n_; (try clear hb); (try clear hb2); (try clear hk); (try clear hi); (try clear ho0); obtain ⟨Ao6, co6, eo6⟩ := Kd.R_slice HO347.out; subst eo6))
   go_ret2
   exact ⟨by first | rfl | simp [*], bl HB⟩
  ·rw [if_neg c4] at H
   have c4b0 : ((t344.length : Int) == 0) = false := beq_eq_false_iff_ne.mpr c4
   have c4b1 : ((t344.length : Int) != 0) = true := bne_iff_ne.mpr c4
   have c4b2 : ¬ (t344 = []) := fun h_ => c4 (by rw [h_]; rfl)
   have H' := Aside0.mk H
   clear H
   go_enter Try.func54, Try.ntmps54
   go_wp2_with (first | ((with_reducible refine gate_callee (f := 82) rfl ?_); refine goesM (some 12) rfl rfl Try.func82 (by kernel_rfl) rfl #[.slice A0 l0.length c0] rfl (by rfl) ?_; (with_reducible refine (sibylref01_Fit.calls k _ _ l0 t344 t345 _ ?side1 ?side2 A2.out).mono ?_); (case side1 => exact ca HR0.out); (case side2 => exact HC0.out); rintro e w7 ⟨v346, rfl, ho0, hb⟩; refine ⟨_, rfl, ?_⟩; have n_ := mk2 (Kd.R_lower ho0 (below_size (bl HB))) (below_step (bl HB) hb); clear HB; obtain ⟨HO347, HB⟩ := n_; (try clear hb); (try clear hb2); (try clear hk); (try clear hi); (try clear ho0); obtain ⟨Ao8, co8, eo8⟩ := Kd.R_slice HO347.out; subst eo8))
   go_loopg [4, 6] k (fun kq v4 v6 w' => ∃ (x4_1 : List Int) (x6_1 : ByteArray), v6 = .string x6_1 ∧ Aside0 (sibylref01_Text.l0 kq x4_1 x6_1 = some (r1, r2)) ∧ Aside0 (kq ≤ k) ∧ Aside0 (Kd.R (Kd.int .u32) 99 w' w.heap.size (fun _ => True) v4 x4_1) ∧ Aside0 (Below w.heap.size w w'))
   case atStart => exact ⟨(t344), ((⟨#[]⟩ : ByteArray)), (by first | rfl | (simp; done) | (simp [*]; done)), H', ⟨Nat.le_refl _⟩, ⟨ra HO347.out⟩, ⟨bl HB⟩⟩
   case round =>
    clear H'
    try clear p2
    try clear c3
    try clear c3b0
    try clear c3b1
    try clear c4
    try clear c4b0
    try clear c4b1
    try clear c4b2
    try clear c5
    try clear c8
    obtain ⟨x4_1, x6_1, rfl, HA, HK1, HO_4, HB⟩ := hrel
    cases gk with
    | zero => exact absurd HA.out (by simp [sibylref01_Text.l0])
    | succ k1 =>
     have H := HA.out
     clear HA
     simp only [sibylref01_Text.l0] at H
     by_cases c9 : (x4_1.length : Int) > 0
     ·rw [if_pos c9] at H
      have c9b0 : decide (0 < (x4_1.length : Int)) = true := decide_eq_true c9
      have c9b1 : decide (0 < x4_1.length) = true := decide_eq_true (by omega)
      clear c9
      have H' := Aside0.mk H
      clear H
      obtain ⟨Ao10, co10, eo10⟩ := Kd.R_slice HO_4.out
      subst eo10
      go_wp2
      go_loopg [7, 8] k1 (fun kq v7 v8 w' => ∃ (x4_2 : List Int) (x7_2 : Int) (x8_2 : Int), v7 = .int .u64 x7_2 ∧ v8 = .int .i64 x8_2 ∧ Aside0 (sibylref01_Text.l1 kq x4_2 x6_1 x7_2 x8_2 = some (r1, r2)) ∧ Aside0 (kq ≤ k1) ∧ Aside0 (Kd.R (Kd.int .u32) 99 w' w.heap.size (fun _ => True) (.slice Ao10 x4_1.length co10) x4_2) ∧ Aside0 (Below w.heap.size w w'))
      case atStart => exact ⟨(x4_1), (0), (wrap64 ((x4_1.length : Int) - 1)), (by first | rfl | (simp; done) | (simp [*]; done)), (by first | rfl | (simp; done) | (simp [*]; done)), H', ⟨Nat.le_refl _⟩, ⟨ra HO_4.out⟩, ⟨bl HB⟩⟩
      case round =>
       clear H'
       try clear p2
       try clear c3
       try clear c3b0
       try clear c3b1
       try clear c4
       try clear c4b0
       try clear c4b1
       try clear c4b2
       try clear c5
       try clear p6
       try clear c8
       try clear c9
       try clear c9b0
       try clear c9b1
       try clear p2
       obtain ⟨x4_2, x7_2, x8_2, rfl, rfl, HA, HK2, HO_4, HB⟩ := hrel
       have hl4_2 := (Kd.R_reads' HO_4.out).1
       rw [hl4_2] at HO_4
       (try simp only [hl4_2])
       cases gk with
       | zero => exact absurd HA.out (by simp [sibylref01_Text.l1])
       | succ k2 =>
        have H := HA.out
        clear HA
        simp only [sibylref01_Text.l1] at H
        by_cases c11 : x8_2 ≥ 0
        ·rw [if_pos c11] at H
         have c11b0 : decide (0 ≤ x8_2) = true := decide_eq_true c11
         clear c11
         by_cases c12 : 0 ≤ x8_2
         ·rw [if_pos c12] at H
          have c12b0 : decide (0 ≤ x8_2) = true := decide_eq_true c12
          clear c12
          by_cases c13 : x8_2 < (x4_2.length : Int)
          ·rw [if_pos c13] at H
           have c13b0 : decide (x8_2 < (x4_2.length : Int)) = true := decide_eq_true c13
           clear c13
           obtain ⟨y349, hy349⟩ : ∃ y_ : List Int, y_ = (x4_2.set (x8_2 : Int).toNat ((IntKind.u64.wrap (Int.tdiv (IntKind.u64.wrap ((IntKind.u64.wrap (x7_2 * 4294967296)) + (IntKind.u64.wrap (rd x4_2 x8_2)))) 10)) % 4294967296)) := ⟨_, rfl⟩
           replace H : (sibylref01_Text.l1 k2 y349 x6_1 (Int.tmod (IntKind.u64.wrap ((IntKind.u64.wrap (x7_2 * 4294967296)) + (IntKind.u64.wrap (rd x4_2 x8_2)))) 10) (wrap64 (x8_2 - 1))) = some (r1, r2) := by rw [hy349]; exact H
           have Ny349 := Aside0.mk hy349
           clear hy349
           have H' := Aside0.mk H
           clear H
           have p348 : 0 ≤ (x8_2 : Int) := of_decide_eq_true (by first | (with_reducible assumption) | assumption)
           have q348 : x8_2 < (x4_2.length : Int) := of_decide_eq_true (by first | (with_reducible assumption) | assumption)
           obtain ⟨ad348, e348, hx348_0⟩ := Kd.at_int (Kd.R_reads' HO_4.out).2.2 x8_2 p348 q348
           cases e348
           replace p348 := eq_true p348
           replace q348 := eq_true q348
           have p14 : 0 ≤ (x8_2 : Int) := of_decide_eq_true (by first | (with_reducible assumption) | assumption)
           have q14 : (x8_2 : Int) < ((x4_2.length : Int) : Int) := of_decide_eq_true (by first | (with_reducible assumption) | assumption)
           obtain ⟨go14, co14, eo14, gb14, gl14, cl14, HG14⟩ := Kd.R_form HO_4.out (by omega)
           (first | cases eo14 | (injection eo14 with ea_ en_ ec_; (first | subst ea_ | (injection ea_ with ea_; subst ea_)); subst ec_; clear en_))
           have GB14 := Aside0.mk gb14
           have GG14 := Aside0.mk HG14
           clear gb14 gl14 HG14
           (first | simp only [add_plain] at hx348_0 | skip)
           obtain ⟨hx14_0, hf14_0⟩ := Kd.R_celln 0 HO_4.out (x8_2 : Int) p14 q14
           replace p14 := eq_true p14
           replace q14 := eq_true q14
           have HP15 := Kd.R_putg HO_4.out (x8_2 : Int) ((IntKind.u64.wrap (Int.tdiv (IntKind.u64.wrap ((IntKind.u64.wrap (x7_2 * 4294967296)) + (IntKind.u64.wrap (rd x4_2 x8_2)))) 10)) % 4294967296)
           go_wp2_with (first | ((with_reducible refine gate_store (t := 99) (p := 44) rfl ?_); refine store_event (t := 99) (p := 44) (v := ?vo_w16) (w1 := (wr.setCell ⟨go14, (x8_2 : Int).toNat, none⟩ (.int .u32 ((IntKind.u64.wrap (Int.tdiv (IntKind.u64.wrap ((IntKind.u64.wrap (x7_2 * 4294967296)) + (IntKind.u64.wrap (rd x4_2 x8_2)))) 10)) % 4294967296)))) ?hg ?ho ?hn ?hr ?_; (case ho => rfl); (case hg => rfl); (case hn => rfl); (case hr => first | (go_simp; done) | (go_simp; rfl)); intro w16 hw; have hg : wr.grownBy w16 (some go14) := (by rw [hw]; exact HP15.2); have hp_ : Kd.R (Kd.int .u32) 99 w16 w.heap.size (fun _ => True) (.slice (some ⟨go14, 0, none⟩) x4_2.length co10) y349 := (by rw [hw, Ny349.out]; exact HP15.1); clear HP15; have n_ := mk2 (hp_) ((by rw [hw]; exact below_set (HB.out) GB14.out : Below w.heap.size w w16)); clear HO_4 HB; obtain ⟨HO_4, HB⟩ := n_; clear hg hw hp_))
           (try simp only [← hl4_2])
           go_roundg k2
           case measure => have := HK1.out; have := HK2.out; omega
           case rel => exact ⟨(y349), (Int.tmod (IntKind.u64.wrap ((IntKind.u64.wrap (x7_2 * 4294967296)) + (IntKind.u64.wrap (rd x4_2 x8_2)))) 10), (wrap64 (x8_2 - 1)), (by first | rfl | (simp; done) | (simp [*]; done)), (by first | rfl | (simp; done) | (simp [*]; done)), H', ⟨by have := HK1.out; have := HK2.out; omega⟩, ⟨by (try simp only [hl4_2]); (with_reducible repeat (first | apply Kd.R_alloc | apply Kd.R_drewN | apply Kd.R_drew)); exact HO_4.out⟩, ⟨bl HB⟩⟩
          ·rw [if_neg c13] at H
           exact absurd H (by simp)
         ·rw [if_neg c12] at H
          exact absurd H (by simp)
        ·rw [if_neg c11] at H
         have c11b0 : decide (0 ≤ x8_2) = false := decide_eq_false c11
         clear c11
         by_cases c17 : 0 ≤ x7_2
         ·rw [if_pos c17] at H
          have c17b0 := eq_true c17
          have c17b1 : decide (0 ≤ x7_2) = true := decide_eq_true c17
          clear c17
          by_cases c18 : x7_2 ≤ (IntKind.u64.wrap (x7_2 + 1))
          ·rw [if_pos c18] at H
           have c18b0 := eq_true c18
           have c18b1 : decide (x7_2 ≤ (IntKind.u64.wrap (x7_2 + 1))) = true := decide_eq_true c18
           by_cases c19 : (IntKind.u64.wrap (x7_2 + 1)) ≤ 10
           ·rw [if_pos c19] at H
            have c19b0 := eq_true c19
            have c19b1 : decide ((IntKind.u64.wrap (x7_2 + 1)) ≤ 10) = true := decide_eq_true c19
            by_cases c20 : ((⟨#[48, 49, 50, 51, 52, 53, 54, 55, 56, 57]⟩ : ByteArray).extract (x7_2 : Int).toNat ((IntKind.u64.wrap (x7_2 + 1)) : Int).toNat).size + x6_1.size ≤ 9223372036854775807
            ·rw [if_pos c20] at H
             have c20b0 := eq_true c20
             have c20b1 : decide (((⟨#[48, 49, 50, 51, 52, 53, 54, 55, 56, 57]⟩ : ByteArray).extract (x7_2 : Int).toNat ((IntKind.u64.wrap (x7_2 + 1)) : Int).toNat).size + x6_1.size ≤ 9223372036854775807) = true := decide_eq_true c20
             try have c20b2 : (9223372036854775807 < ((⟨#[48, 49, 50, 51, 52, 53, 54, 55, 56, 57]⟩ : ByteArray).extract (x7_2 : Int).toNat ((IntKind.u64.wrap (x7_2 + 1)) : Int).toNat).size + x6_1.size) = False := eq_false (Nat.not_lt.2 c20)
             obtain ⟨t350, A21, H⟩ := bindA H
             have H' := Aside0.mk H
             clear H
             go_wp2_with (first | ((with_reducible refine gate_callee (f := 83) rfl ?_); refine goesM (some 54) rfl rfl Try.func83 (by kernel_rfl) rfl #[.slice Ao10 x4_2.length co10] rfl (by rfl) ?_; (with_reducible refine (sibylref01_Trim.calls k2 _ _ x4_2 t350 _ ?side1 ?side2 A21.out).mono ?_); (case side1 => exact ca ((Kd.R_reads' HO_4.out).2.2)); (case side2 => exact (Kd.R_reads' HO_4.out).2.1); rintro e w22 ⟨v351, rfl, ho0, hb⟩; refine ⟨_, rfl, ?_⟩; have n_ := mk3 (Kd.R_elder' (ra HO_4.out) (Kd.R_base ho0) hb) (Kd.R_lower (Kd.R_new' ho0 (Kd.R_lt (ra HO_4.out))) (below_size (bl HB))) (below_step (bl HB) hb); clear HO_4 HB; obtain ⟨HO_4, HO352, HB⟩ := n_; (try clear hb); (try clear hb2); (try clear hk); (try clear hi); (try clear ho0)))
             (try simp only [← hl4_2])
             go_roundg k2
             case measure => have := HK1.out; have := HK2.out; omega
             case rel => exact ⟨(t350), (((⟨#[48, 49, 50, 51, 52, 53, 54, 55, 56, 57]⟩ : ByteArray).extract (x7_2 : Int).toNat ((IntKind.u64.wrap (x7_2 + 1)) : Int).toNat) ++ x6_1), (by first | rfl | (simp; done) | (simp [*]; done)), H', ⟨by have := HK1.out; have := HK2.out; omega⟩, ⟨by (try simp only [hl4_2]); (with_reducible repeat (first | apply Kd.R_alloc | apply Kd.R_drewN | apply Kd.R_drew)); exact Kd.R_mono HO352.out (fun _ hk => trivial)⟩, ⟨bl HB⟩⟩
            ·rw [if_neg c20] at H
             exact absurd H (by simp)
           ·rw [if_neg c19] at H
            exact absurd H (by simp)
          ·rw [if_neg c18] at H
           exact absurd H (by simp)
         ·rw [if_neg c17] at H
          exact absurd H (by simp)
     ·rw [if_neg c9] at H
      have c9b0 : decide (0 < (x4_1.length : Int)) = false := decide_eq_false c9
      have c9b1 : decide (0 < x4_1.length) = false := decide_eq_false (by omega)
      clear c9
      simp only [Option.some.injEq, Prod.mk.injEq] at H
      obtain ⟨rfl, rfl⟩ := H
      obtain ⟨Ao23, co23, eo23⟩ := Kd.R_slice HO_4.out
      subst eo23
      go_wp2
      go_ret2
      exact ⟨by first | rfl | simp [*], bl HB⟩
 ·rw [if_neg c3] at H
  have c3b0 : (t345 == 0) = false := beq_eq_false_iff_ne.mpr c3
  have c3b1 : (t345 != 0) = true := bne_iff_ne.mpr c3
  simp only [Option.some.injEq, Prod.mk.injEq] at H
  obtain ⟨rfl, rfl⟩ := H
  go_enter Try.func54, Try.ntmps54
  go_wp2_with (first | ((with_reducible refine gate_callee (f := 82) rfl ?_); refine goesM (some 12) rfl rfl Try.func82 (by kernel_rfl) rfl #[.slice A0 l0.length c0] rfl (by rfl) ?_; (with_reducible refine (sibylref01_Fit.calls k _ _ l0 t344 t345 _ ?side1 ?side2 A2.out).mono ?_); (case side1 => exact ca HR0.out); (case side2 => exact HC0.out); rintro e w24 ⟨v346, rfl, ho0, hb⟩; refine ⟨_, rfl, ?_⟩; have n_ := mk2 (Kd.R_lower ho0 (below_size (bl HB))) (below_step (bl HB) hb); clear HB; obtain ⟨HO347, HB⟩ := n_; (try clear hb); (try clear hb2); (try clear hk); (try clear hi); (try clear ho0)))
  go_ret2
  exact ⟨by first | rfl | simp [*], bl HB⟩
def sibylref02_Text.j0 : Nat → ByteArray → Bool → List Int → List Int → Option (ByteArray × Int)
 | 0, _, _, _, _ => none
 | k + 1, x4, x354000, x354001, x354002 => (sibylref01_Same.f k x354002 (([1] : List Int))).bind fun t360 => (if t360 = true then (some (x4, 0)) else ((sibylref01_Text.f k x354002).bind fun bt361 => (if x4.size + 1 ≤ 9223372036854775807 then (if (x4 ++ (⟨#[47]⟩ : ByteArray)).size + bt361.1.size ≤ 9223372036854775807 then (some ((x4 ++ (⟨#[47]⟩ : ByteArray)) ++ bt361.1, 0)) else (none)) else (none))))
def sibylref02_Text.f (k : Nat) (a0_0 : Bool) (l0_1 : List Int) (l0_2 : List Int) : Option (ByteArray × Int) := (sibylref02_Form.f k a0_0 l0_1 l0_2).bind fun t354 => (if t354 = true then ((sibylref01_Text.f k l0_1).bind fun bt355 => (if a0_0 = true then (if 1 + bt355.1.size ≤ 9223372036854775807 then (sibylref02_Text.j0 k ((⟨#[45]⟩ : ByteArray) ++ bt355.1) a0_0 l0_1 l0_2) else (none)) else (sibylref02_Text.j0 k bt355.1 a0_0 l0_1 l0_2))) else (some ((⟨#[]⟩ : ByteArray), 20)))
set_option maxHeartbeats 8000000 in
set_option maxRecDepth 100000 in
theorem sibylref02_Text.calls (k : Nat) (a0_0 : Bool) (A0_1 : Option Addr) (c0_1 : Nat) (l0_1 : List Int) (A0_2 : Option Addr) (c0_2 : Nat) (l0_2 : List Int) (r1 : ByteArray) (r2 : Int) (w : World) (hr0_1 : Kd.C (Kd.int .u32) w A0_1 l0_1.length l0_1) (hc0_1 : l0_1.length ≤ c0_1) (hr0_2 : Kd.C (Kd.int .u32) w A0_2 l0_2.length l0_2) (hc0_2 : l0_2.length ≤ c0_2) (h : sibylref02_Text.f k a0_0 l0_1 l0_2 = some (r1, r2)) :
  Calls Try.prog 26 #[.agg #[.bool a0_0, .slice A0_1 l0_1.length c0_1, .slice A0_2 l0_2.length c0_2]] w fun e w' => e = .returned (.tuple #[.string r1, .int .i64 r2]) ∧ Below w.heap.size w w' := by
 have hu36 := Try.underlying36
 have HR0_1 := Aside0.mk hr0_1
 have HC0_1 := Aside0.mk hc0_1
 clear hr0_1 hc0_1
 have HR0_2 := Aside0.mk hr0_2
 have HC0_2 := Aside0.mk hc0_2
 clear hr0_2 hc0_2
 have HB := Aside0.mk (Below.refl w.heap.size w)
 have H : ((sibylref02_Form.f k a0_0 l0_1 l0_2).bind fun t354 => (if t354 = true then ((sibylref01_Text.f k l0_1).bind fun bt355 => (if a0_0 = true then (if 1 + bt355.1.size ≤ 9223372036854775807 then (sibylref02_Text.j0 k ((⟨#[45]⟩ : ByteArray) ++ bt355.1) a0_0 l0_1 l0_2) else (none)) else (sibylref02_Text.j0 k bt355.1 a0_0 l0_1 l0_2))) else (some ((⟨#[]⟩ : ByteArray), 20)))) = some (r1, r2) := h
 clear h
 obtain ⟨t354, A2, H⟩ := bindA H
 by_cases c3 : t354 = true
 ·subst c3
  have H1 : ((sibylref01_Text.f k l0_1).bind fun bt355 => (if a0_0 = true then (if 1 + bt355.1.size ≤ 9223372036854775807 then (sibylref02_Text.j0 k ((⟨#[45]⟩ : ByteArray) ++ bt355.1) a0_0 l0_1 l0_2) else (none)) else (sibylref02_Text.j0 k bt355.1 a0_0 l0_1 l0_2))) = some (r1, r2) := by rw [if_pos rfl] at H; exact H
  clear H
  have H := H1
  clear H1
  obtain ⟨⟨t355, t356⟩, A4, H⟩ := bindA H
  dsimp only at H
  have HC5 := Aside0.mk H
  clear H
  go_enter Try.func26, Try.ntmps26
  go_upto_if 18 with (first | ((with_reducible refine gate_dst (N := 1) rfl ?_); refine box_event ?hg (N := 1) ?hd (cs := #[.bool a0_0, .slice A0_1 l0_1.length c0_1, .slice A0_2 l0_2.length c0_2]) (t := 36) ?hr ?_; (case hd => rfl); (case hg => rfl); (case hr => first | (go_simp; done) | (go_simp; rfl)); intro gb353 hg w6 hbox hb; have n_ := mk4 (below_step (bl HB) hb) (hbox) ((by rw [hg]; exact (below_size (bl HB)) : w.heap.size ≤ gb353)) ((by rw [hg]; exact (below_size (bl HB)) : w.heap.size ≤ gb353)); clear HB; obtain ⟨HB, BK353, GW353, GE353⟩ := n_; clear hb hbox hg; obtain ⟨hcz7_0, hcz7_1, hcz7_2, hfz7_0, hfz7_1, hfz7_2⟩ := blk3 BK353.out) | ((with_reducible refine gate_callee (f := 53) rfl ?_); refine goesM (some 9) rfl rfl Try.func53 (by kernel_rfl) rfl #[.agg #[.bool a0_0, .slice A0_1 l0_1.length c0_1, .slice A0_2 l0_2.length c0_2]] rfl (by rfl) ?_; (with_reducible refine (sibylref02_Form.calls k a0_0 _ _ l0_1 _ _ l0_2 true _ ?side1 ?side2 ?side3 ?side4 A2.out).mono ?_); (case side1 => exact ca (Kd.C_below HR0_1.out HB.out)); (case side2 => exact HC0_1.out); (case side3 => exact ca (Kd.C_below HR0_2.out HB.out)); (case side4 => exact HC0_2.out); rintro e w8 ⟨rfl, hb⟩; refine ⟨_, rfl, ?_⟩; have n_ := mk2 (blk_below (ba BK353.out) hb) (below_step (bl1 HB GE353) hb); clear BK353 HB; obtain ⟨BK353, HB⟩ := n_; (try clear hb); (try clear hb2); (try clear hk); (try clear hi); obtain ⟨hcz9_0, hcz9_1, hcz9_2, hfz9_0, hfz9_1, hfz9_2⟩ := blk3 BK353.out) | ((with_reducible refine gate_callee (f := 54) rfl ?_); refine goesM (some 14) rfl rfl Try.func54 (by kernel_rfl) rfl #[.slice A0_1 l0_1.length c0_1] rfl (by rfl) ?_; (with_reducible refine (sibylref01_Text.calls k _ _ l0_1 t355 t356 _ ?side1 ?side2 A4.out).mono ?_); (case side1 => exact ca (Kd.C_below HR0_1.out HB.out)); (case side2 => exact HC0_1.out); rintro e w10 ⟨rfl, hb⟩; refine ⟨_, rfl, ?_⟩; have n_ := mk2 (blk_below (ba BK353.out) hb) (below_step (bl1 HB GE353) hb); clear BK353 HB; obtain ⟨BK353, HB⟩ := n_; (try clear hb); (try clear hb2); (try clear hk); (try clear hi); obtain ⟨hcz11_0, hcz11_1, hcz11_2, hfz11_0, hfz11_1, hfz11_2⟩ := blk3 BK353.out))
  (try simp only [Act.put, List.setIfInBounds_toArray, List.set_cons_zero, List.set_cons_succ])
  go_cut [4] (fun v4 wc => ∃ (kq : Nat) (x4_4 : ByteArray), v4 = .string x4_4 ∧ Aside0 (sibylref02_Text.j0 kq x4_4 a0_0 l0_1 l0_2 = some (r1, r2)) ∧ Aside0 (kq ≤ k) ∧ Aside0 (wc.heap[gb353]? = some (.cells #[.bool a0_0, (.slice A0_1 l0_1.length c0_1), (.slice A0_2 l0_2.length c0_2)] 36 (0, 0))) ∧ Aside0 (Below w.heap.size w wc))
  case first =>
   have H := HC5.out
   clear HC5
   by_cases c12 : a0_0 = true
   ·subst c12
    have H1 : (if 1 + t355.size ≤ 9223372036854775807 then (sibylref02_Text.j0 k ((⟨#[45]⟩ : ByteArray) ++ t355) true l0_1 l0_2) else (none)) = some (r1, r2) := by rw [if_pos rfl] at H; exact H
    clear H
    have H := H1
    clear H1
    by_cases c13 : 1 + t355.size ≤ 9223372036854775807
    ·rw [if_pos c13] at H
     have c13b0 := eq_true c13
     have c13b1 : decide (1 + t355.size ≤ 9223372036854775807) = true := decide_eq_true c13
     try have c13b2 : (9223372036854775807 < 1 + t355.size) = False := eq_false (Nat.not_lt.2 c13)
     have H' := Aside0.mk H
     clear H
     go_wp2
     go_meet
     case rel => exact ⟨_, ((⟨#[45]⟩ : ByteArray) ++ t355), (by first | rfl | (simp; done) | (simp [*]; done)), H', ⟨by first | omega | exact Nat.le_refl _⟩, ⟨ba BK353.out⟩, ⟨bl1 HB GE353⟩⟩
    ·rw [if_neg c13] at H
     exact absurd H (by simp)
   ·replace c12 := Bool.eq_false_iff.mpr c12
    subst c12
    have H1 : (sibylref02_Text.j0 k t355 false l0_1 l0_2) = some (r1, r2) := by rw [if_neg (show ¬ (false = true) by decide)] at H; exact H
    clear H
    have H := H1
    clear H1
    have H' := Aside0.mk H
    clear H
    go_wp2
    go_meet
    case rel => exact ⟨_, (t355), (by first | rfl | (simp; done) | (simp [*]; done)), H', ⟨by first | omega | exact Nat.le_refl _⟩, ⟨ba BK353.out⟩, ⟨bl1 HB GE353⟩⟩
  case rest =>
   clear HC5
   try clear c1
   try clear c2
   try clear p2
   try clear c3
   try clear c5
   try clear c12
   try clear c13
   try clear c13b0
   try clear c13b1
   try clear c13b2
   try clear hcz11_0
   try clear hcz11_1
   try clear hcz11_2
   try clear hcz7_0
   try clear hcz7_1
   try clear hcz7_2
   try clear hcz9_0
   try clear hcz9_1
   try clear hcz9_2
   try clear hfz11_0
   try clear hfz11_1
   try clear hfz11_2
   try clear hfz7_0
   try clear hfz7_1
   try clear hfz7_2
   try clear hfz9_0
   try clear hfz9_1
   try clear hfz9_2
   obtain ⟨kq, x4_4, rfl, HA, HJ4, BK353, HB⟩ := hcut
   cases kq with
   | zero => exact absurd HA.out (by simp [sibylref02_Text.j0])
   | succ kj4 =>
    have H := HA.out
    clear HA
    simp only [sibylref02_Text.j0] at H
    obtain ⟨y357, hy357⟩ : ∃ y_ : List Int, y_ = (([1] : List Int)) := ⟨_, rfl⟩
    replace H : ((sibylref01_Same.f kj4 l0_2 y357).bind fun t360 => (if t360 = true then (some (x4_4, 0)) else ((sibylref01_Text.f kj4 l0_2).bind fun bt361 => (if x4_4.size + 1 ≤ 9223372036854775807 then (if (x4_4 ++ (⟨#[47]⟩ : ByteArray)).size + bt361.1.size ≤ 9223372036854775807 then (some ((x4_4 ++ (⟨#[47]⟩ : ByteArray)) ++ bt361.1, 0)) else (none)) else (none))))) = some (r1, r2) := by rw [hy357]; exact H
    have Ny357 := Aside0.mk hy357
    clear hy357
    obtain ⟨t360, A14, H⟩ := bindA H
    by_cases c15 : t360 = true
    ·subst c15
     have H1 : (some (x4_4, 0)) = some (r1, r2) := by rw [if_pos rfl] at H; exact H
     clear H
     have H := H1
     clear H1
     simp only [Option.some.injEq, Prod.mk.injEq] at H
     obtain ⟨rfl, rfl⟩ := H
     have hcz16_0 : wc.cell? ⟨gb353, 0, none⟩ = some (.bool a0_0) := (blk_cell BK353.out 0).trans rfl
     have hcz16_1 : wc.cell? ⟨gb353, 1, none⟩ = some (.slice A0_1 l0_1.length c0_1) := (blk_cell BK353.out 1).trans rfl
     have hcz16_2 : wc.cell? ⟨gb353, 2, none⟩ = some (.slice A0_2 l0_2.length c0_2) := (blk_cell BK353.out 2).trans rfl
     have hfz16_0 := blk_frozen BK353.out 0
     have hfz16_1 := blk_frozen BK353.out 1
     have hfz16_2 := blk_frozen BK353.out 2
     go_wp2_with (first | ((with_reducible refine gate_dst (N := 23) rfl ?_); refine Kd.R_lit (Kd.int .u32) _ 99 ?hg (N := 23) ?hd (xs := ([1] : List Int)) (inner := [.int .u32 1]) (ok := fun _ => True) (okp := fun _ => True) ?hr ?hp (fun _ hk => hk) trivial (Below.refl _ _) (Nat.le_refl _) (by simp) ?_; (case hd => rfl); (case hg => rfl); (case hr => first | (go_simp; done) | (go_simp; rfl)); (case hp => exact (Reps.one (show Kd.M (Kd.int .u32) _ _ _ 1 [.int .u32 1] from rfl) (Reps.none _ _))); intro v358 w17 ho18 hb hg_ hnew_; clear hg_ hnew_; (first | rw [← Ny357.out] at ho18 | (simp only [Int.reduceToNat] at ho18; rw [← Ny357.out] at ho18)); have n_ := mk3 (Kd.R_lower ho18 (below_size (bl1 HB GE353))) (blk_below (ba BK353.out) hb) (below_step (bl1 HB GE353) hb); clear BK353 HB; obtain ⟨HO359, BK353, HB⟩ := n_; clear hb ho18; obtain ⟨Ao19, co19, eo19⟩ := Kd.R_slice HO359.out; subst eo19) | ((with_reducible refine gate_callee (f := 36) rfl ?_); refine goesM (some 24) rfl rfl Try.func36 (by kernel_rfl) rfl #[.slice A0_2 l0_2.length c0_2, .slice Ao19 y357.length co19] rfl (by rfl) ?_; (with_reducible refine (sibylref01_Same.calls kj4 _ _ l0_2 _ _ y357 true _ ?side1 ?side2 ?side3 ?side4 A14.out).mono ?_); (case side1 => exact ca (Kd.C_below HR0_2.out HB.out)); (case side2 => exact HC0_2.out); (case side3 => exact ca ((Kd.R_reads' HO359.out).2.2)); (case side4 => exact (Kd.R_reads' HO359.out).2.1); rintro e w' ⟨rfl, ⟨nd, rfl⟩⟩; refine ⟨_, rfl, ?_⟩))
     go_ret2
     exact ⟨by first | rfl | simp [*], bl1 HB GE353⟩
    ·replace c15 := Bool.eq_false_iff.mpr c15
     subst c15
     have H1 : ((sibylref01_Text.f kj4 l0_2).bind fun bt361 => (if x4_4.size + 1 ≤ 9223372036854775807 then (if (x4_4 ++ (⟨#[47]⟩ : ByteArray)).size + bt361.1.size ≤ 9223372036854775807 then (some ((x4_4 ++ (⟨#[47]⟩ : ByteArray)) ++ bt361.1, 0)) else (none)) else (none))) = some (r1, r2) := by rw [if_neg (show ¬ (false = true) by decide)] at H; exact H
     clear H
     have H := H1
     clear H1
     obtain ⟨⟨t361, t362⟩, A20, H⟩ := bindA H
     dsimp only at H
     by_cases c21 : x4_4.size + 1 ≤ 9223372036854775807
     ·rw [if_pos c21] at H
      have c21b0 := eq_true c21
      have c21b1 : decide (x4_4.size + 1 ≤ 9223372036854775807) = true := decide_eq_true c21
      try have c21b2 : (9223372036854775807 < x4_4.size + 1) = False := eq_false (Nat.not_lt.2 c21)
      by_cases c22 : (x4_4 ++ (⟨#[47]⟩ : ByteArray)).size + t361.size ≤ 9223372036854775807
      ·rw [if_pos c22] at H
       have c22b0 := eq_true c22
       have c22b1 : decide ((x4_4 ++ (⟨#[47]⟩ : ByteArray)).size + t361.size ≤ 9223372036854775807) = true := decide_eq_true c22
       try have c22b2 : (9223372036854775807 < (x4_4 ++ (⟨#[47]⟩ : ByteArray)).size + t361.size) = False := eq_false (Nat.not_lt.2 c22)
       simp only [Option.some.injEq, Prod.mk.injEq] at H
       obtain ⟨rfl, rfl⟩ := H
       have hcz23_0 : wc.cell? ⟨gb353, 0, none⟩ = some (.bool a0_0) := (blk_cell BK353.out 0).trans rfl
       have hcz23_1 : wc.cell? ⟨gb353, 1, none⟩ = some (.slice A0_1 l0_1.length c0_1) := (blk_cell BK353.out 1).trans rfl
       have hcz23_2 : wc.cell? ⟨gb353, 2, none⟩ = some (.slice A0_2 l0_2.length c0_2) := (blk_cell BK353.out 2).trans rfl
       have hfz23_0 := blk_frozen BK353.out 0
       have hfz23_1 := blk_frozen BK353.out 1
       have hfz23_2 := blk_frozen BK353.out 2
       go_wp2_with (first | ((with_reducible refine gate_dst (N := 23) rfl ?_); refine Kd.R_lit (Kd.int .u32) _ 99 ?hg (N := 23) ?hd (xs := ([1] : List Int)) (inner := [.int .u32 1]) (ok := fun _ => True) (okp := fun _ => True) ?hr ?hp (fun _ hk => hk) trivial (Below.refl _ _) (Nat.le_refl _) (by simp) ?_; (case hd => rfl); (case hg => rfl); (case hr => first | (go_simp; done) | (go_simp; rfl)); (case hp => exact (Reps.one (show Kd.M (Kd.int .u32) _ _ _ 1 [.int .u32 1] from rfl) (Reps.none _ _))); intro v358 w24 ho25 hb hg_ hnew_; clear hg_ hnew_; (first | rw [← Ny357.out] at ho25 | (simp only [Int.reduceToNat] at ho25; rw [← Ny357.out] at ho25)); have n_ := mk3 (Kd.R_lower ho25 (below_size (bl1 HB GE353))) (blk_below (ba BK353.out) hb) (below_step (bl1 HB GE353) hb); clear BK353 HB; obtain ⟨HO359, BK353, HB⟩ := n_; clear hb ho25; obtain ⟨Ao26, co26, eo26⟩ := Kd.R_slice HO359.out; subst eo26) | ((with_reducible refine gate_callee (f := 36) rfl ?_); refine goesM (some 24) rfl rfl Try.func36 (by kernel_rfl) rfl #[.slice A0_2 l0_2.length c0_2, .slice Ao26 y357.length co26] rfl (by rfl) ?_; (with_reducible refine (sibylref01_Same.calls kj4 _ _ l0_2 _ _ y357 false _ ?side1 ?side2 ?side3 ?side4 A14.out).mono ?_); (case side1 => exact ca (Kd.C_below HR0_2.out HB.out)); (case side2 => exact HC0_2.out); (case side3 => exact ca ((Kd.R_reads' HO359.out).2.2)); (case side4 => exact (Kd.R_reads' HO359.out).2.1); rintro e w' ⟨rfl, ⟨nd, rfl⟩⟩; refine ⟨_, rfl, ?_⟩; obtain ⟨hcz27_0, hcz27_1, hcz27_2, hfz27_0, hfz27_1, hfz27_2⟩ := blk3 BK353.out) | ((with_reducible refine gate_callee (f := 54) rfl ?_); refine goesM (some 29) rfl rfl Try.func54 (by kernel_rfl) rfl #[.slice A0_2 l0_2.length c0_2] rfl (by rfl) ?_; (with_reducible refine (sibylref01_Text.calls kj4 _ _ l0_2 t361 t362 _ ?side1 ?side2 A20.out).mono ?_); (case side1 => exact (Kd.C_below HR0_2.out (bl1 HB GE353))); (case side2 => exact HC0_2.out); rintro e w28 ⟨rfl, hb⟩; refine ⟨_, rfl, ?_⟩; have n_ := mk3 (Kd.R_below (ra HO359.out) hb) (blk_below (ba BK353.out) hb) (below_step (bl1 HB GE353) hb); clear HO359 BK353 HB; obtain ⟨HO359, BK353, HB⟩ := n_; (try clear hb); (try clear hb2); (try clear hk); (try clear hi)))
       go_ret2
       exact ⟨by first | rfl | simp [*], bl1 HB GE353⟩
      ·rw [if_neg c22] at H
       exact absurd H (by simp)
     ·rw [if_neg c21] at H
      exact absurd H (by simp)
 ·replace c3 := Bool.eq_false_iff.mpr c3
  subst c3
  have H1 : (some ((⟨#[]⟩ : ByteArray), 20)) = some (r1, r2) := by rw [if_neg (show ¬ (false = true) by decide)] at H; exact H
  clear H
  have H := H1
  clear H1
  simp only [Option.some.injEq, Prod.mk.injEq] at H
  obtain ⟨rfl, rfl⟩ := H
  go_enter Try.func26, Try.ntmps26
  go_wp2_with (first | ((with_reducible refine gate_dst (N := 1) rfl ?_); refine box_event ?hg (N := 1) ?hd (cs := #[.bool a0_0, .slice A0_1 l0_1.length c0_1, .slice A0_2 l0_2.length c0_2]) (t := 36) ?hr ?_; (case hd => rfl); (case hg => rfl); (case hr => first | (go_simp; done) | (go_simp; rfl)); intro gb353 hg w29 hbox hb; have n_ := mk4 (below_step (bl HB) hb) (hbox) ((by rw [hg]; exact (below_size (bl HB)) : w.heap.size ≤ gb353)) ((by rw [hg]; exact (below_size (bl HB)) : w.heap.size ≤ gb353)); clear HB; obtain ⟨HB, BK353, GW353, GE353⟩ := n_; clear hb hbox hg; obtain ⟨hcz30_0, hcz30_1, hcz30_2, hfz30_0, hfz30_1, hfz30_2⟩ := blk3 BK353.out) | ((with_reducible refine gate_callee (f := 53) rfl ?_); refine goesM (some 9) rfl rfl Try.func53 (by kernel_rfl) rfl #[.agg #[.bool a0_0, .slice A0_1 l0_1.length c0_1, .slice A0_2 l0_2.length c0_2]] rfl (by rfl) ?_; (with_reducible refine (sibylref02_Form.calls k a0_0 _ _ l0_1 _ _ l0_2 false _ ?side1 ?side2 ?side3 ?side4 A2.out).mono ?_); (case side1 => exact ca (Kd.C_below HR0_1.out HB.out)); (case side2 => exact HC0_1.out); (case side3 => exact ca (Kd.C_below HR0_2.out HB.out)); (case side4 => exact HC0_2.out); rintro e w31 ⟨rfl, hb⟩; refine ⟨_, rfl, ?_⟩; have n_ := mk2 (blk_below (ba BK353.out) hb) (below_step (bl1 HB GE353) hb); clear BK353 HB; obtain ⟨BK353, HB⟩ := n_; (try clear hb); (try clear hb2); (try clear hk); (try clear hi)))
  go_ret2
  exact ⟨by first | rfl | simp [*], bl1 HB GE353⟩
end Go.Proofs.Ytjppanekddljbaa.Pr
