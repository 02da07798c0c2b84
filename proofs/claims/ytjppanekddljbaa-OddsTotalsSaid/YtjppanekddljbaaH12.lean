/- odds.Chance: what the Go code computes. -/
import Derived.Test.YtjppanekddljbaaH11
namespace Go.Proofs.Ytjppanekddljbaa.H
open Go.RowKit Go.Proofs.Ytjppanekddljbaa.Pr Go.Proofs.YtjppanekddljbaaW.PrintWords Go.Proofs.YtjppanekddljbaaW.PrintLast Go.Proofs.YtjppanekddljbaaW.PrintMore
open Go.Proofs.Ytjppanekddljbaa.Fl
set_option linter.unusedVariables false
set_option linter.unusedSimpArgs false
attribute [local go_sem] run_store_float

def pickOf (log : List S68) (i : Nat) : Nat := (rd_T68 log i).f0.toNat
def pickTook (log : List S68) (i : Nat) : Nat := (rd_T68 log i).f1.toNat
/-- how likely the first picks are; none: a product is no number -/
def chanceTo (l : List Nat) (log : List S68) : Nat → Option Nat
  | 0 => some ONE
  | i + 1 => (chanceTo l log i).bind fun c => Ieee.double.mul c (shareW (wOf l i) (pickOf log i) (pickTook log i))
theorem chanceTo_some {l : List Nat} {log : List S68} : ∀ {n : Nat}, (∃ r, chanceTo l log n = some r) → ∀ i, i ≤ n → ∃ r, chanceTo l log i = some r
  | 0, h, i, hi => by rw [show i = 0 from by omega]; exact h
  | n + 1, h, i, hi => by
    rcases Nat.lt_or_ge n i with h1 | h1
    · rw [show i = n + 1 from by omega]; exact h
    · obtain ⟨r, hr⟩ := h
      obtain ⟨c, hc, _⟩ := Option.bind_eq_some_iff.1 hr
      exact chanceTo_some ⟨c, hc⟩ i h1

theorem goodB_at {log : List S68} (h : goodB log = true) (i : Nat) (hi : i < log.length) : 2 ≤ (rd_T68 log i).f0 ∧ 0 ≤ (rd_T68 log i).f1 ∧ (rd_T68 log i).f1 < (rd_T68 log i).f0 ∧ (rd_T68 log i).f0 ≤ 4096 := by
  unfold goodB BigB at h
  simp only [Bool.and_eq_true, Bool.not_eq_true', List.all_eq_true, List.any_eq_false] at h
  have h1 := h.1 log[i] (List.getElem_mem hi)
  have h2 := h.2 log[i] (List.getElem_mem hi)
  unfold okP at h1
  rw [rd68 log i hi]
  simp at h1 h2
  omega

set_option maxHeartbeats 4000000 in
set_option maxRecDepth 100000 in
theorem chance_ok (A : Option Addr) (c : Nat) (l : List Nat) (B : Option Addr) (d : Nat) (log : List S68) (r : Nat) (w : World) (hr0 : kf.C w A l.length l) (hc0 : l.length ≤ c) (hl : l.length ≤ 4611686018427387904) (hx : ∀ x ∈ l, x < 18446744073709551616)
    (hr : Kd.C k68 w B log.length log) (hc : log.length ≤ d) (hn : log.length ≤ 8796093022208) (hg : goodB log = true) (hch : chanceTo l log log.length = some r) :
    Calls Try.prog 8 #[.slice A l.length c, .slice B log.length d] w fun e w' => e = .returned (.tuple #[.float .f64 r, .int .i64 0]) ∧ Below w.heap.size w w' := by
  have hu68 := Try.underlying68
  have HR0 := Aside0.mk hr0
  have HC0 := Aside0.mk hc0
  have HL := Aside0.mk hl
  have HX := Aside0.mk hx
  have HR := Aside0.mk hr
  have HC := Aside0.mk hc
  have HN := Aside0.mk hn
  have HGB := Aside0.mk hg
  have HCH := Aside0.mk hch
  have HG : Aside0 (odds_good.f 0 log = some true) := ⟨by rw [odds_good.f, if_pos hn, hg]⟩
  have hmax : log.length ≤ 9223372036854775807 := by omega
  clear hr hc hn hg hch hr0 hc0 hl hx
  go_enter Try.func8, Try.ntmps8
  go_wp2_with (go_at_call 27; refine (odds_good.calls 0 B d log true _ HR.out HC.out HG.out).mono ?_; rintro e w' ⟨rfl, hb⟩; have HB := Aside0.mk hb; clear hb)
  go_loopg [6, 16] log.length (fun kq v6 v16 w' => ∃ (i s : Nat), v16 = .int .i64 i ∧ v6 = .float .f64 s ∧ Aside0 (kq = log.length - i) ∧ i ≤ log.length ∧ Aside0 (chanceTo l log i = some s) ∧ Aside0 (Below w.heap.size w w'))
  case atStart => exact ⟨0, ONE, rfl, rfl, ⟨by omega⟩, by omega, ⟨rfl⟩, ⟨HB.out⟩⟩
  case round =>
    clear HB
    obtain ⟨i, s, rfl, rfl, HK, hi, HS, HB⟩ := hrel
    by_cases hlt : i < log.length
    · obtain ⟨ad, e, hx0, hx1⟩ := at_T68 HR.out (i : Int) (by omega) (by omega)
      cases e
      replace hx0 := (HB.out.cell (World.block_lt_of_cell? w _ hx0)).trans hx0
      replace hx1 := (HB.out.cell (World.block_lt_of_cell? w _ hx1)).trans hx1
      simp only [Int.toNat_natCast] at hx0 hx1
      obtain ⟨p1, p2, p3, p4⟩ := goodB_at HGB.out i hlt
      obtain ⟨s2, hs2⟩ := chanceTo_some ⟨r, HCH.out⟩ (i + 1) (by omega)
      have hm : Ieee.double.mul s (shareW (wOf l i) (pickOf log i) (pickTook log i)) = some s2 := by rw [chanceTo, HS.out] at hs2; exact hs2
      have HM := Aside0.mk hm
      have HS2 := Aside0.mk hs2
      clear hm hs2
      obtain ⟨n, hnn⟩ : ∃ n : Nat, (rd_T68 log i).f0 = (n : Int) := ⟨(rd_T68 log i).f0.toNat, by omega⟩
      obtain ⟨j, hjj⟩ : ∃ j : Nat, (rd_T68 log i).f1 = (j : Int) := ⟨(rd_T68 log i).f1.toNat, by omega⟩
      have HPO : Aside0 (pickOf log i = n) := ⟨by unfold pickOf; rw [hnn]; rfl⟩
      have HPT : Aside0 (pickTook log i = j) := ⟨by unfold pickTook; rw [hjj]; rfl⟩
      rw [hnn] at hx0 p1 p3 p4
      rw [hjj] at hx1 p2 p3
      clear hnn hjj
      have hmul : ∀ w, (binOp .mul 25 (.float .f64 s) (.float .f64 (shareW (wOf l i) n j))).run Try.prog w = .ok (.float .f64 s2) w := fun w => run_float_arith w .mul 25 .f64 _ _ _ (by have h_ := HM.out; rw [HPO.out, HPT.out] at h_; exact h_)
      obtain ⟨y, hy⟩ : ∃ y, shareW (wOf l i) n j = y := ⟨_, rfl⟩
      rw [hy] at hmul
      have HY := Aside0.mk hy
      clear hy
      go_wp2_with (go_at_call 21; refine (shares_ok A c l (i : Int) n _ (Kd.C_alloc (Kd.C_below HR0.out HB.out) _) HC0.out HL.out HX.out (by omega) (by omega) (by omega) (by omega)).mono ?_; rintro e w2 ⟨v0, rfl, ho, hb⟩; obtain ⟨g, cap, e1, hg0, _, _⟩ := Kd.R_form ho (by simp; omega); (simp only [List.length_map, List.length_range] at e1); subst e1; have HB2 := Aside0.mk (below_then (below_alloc HB.out _) (below_alloc HB.out _).size hb); have hc8 : w2.cell? ⟨wr.heap.size, 1, none⟩ = some (.int .i64 j) := (by rw [hb.cell (p := ⟨wr.heap.size, 1, none⟩) (by simp)]; go_simp); have hce : w2.cell? ⟨g, j, none⟩ = some (.float .f64 y) := (by have h_ := own_f_cell ho j (by omega); rw [← HY.out]; simpa [List.getD, show j < n by omega] using h_); clear ho hb hg0)
      go_roundg (log.length - (i + 1))
      case measure => have := HK.out; omega
      case rel => exact ⟨i + 1, s2, by go_num, rfl, ⟨rfl⟩, by omega, HS2, HB2⟩
    · have HE : Aside0 (s = r) := ⟨by have h1 := HS.out; rw [show i = log.length from by omega, HCH.out] at h1; exact (Option.some.inj h1).symm⟩
      go_wp2
      go_ret2
      exact ⟨by rw [← HE.out]; rfl, HB.out⟩
end Go.Proofs.Ytjppanekddljbaa.H
