/- The walk of OddsTotals: of a slice of whole 64-bit numbers, of at most 2^44 of them, the Go code returns true, and nothing that stood before has changed. -/
import Derived.Test.YtjppanekddljbaaB8
import Derived.Test.YtjppanekddljbaaH13
import Derived.DataShut
namespace Go.Proofs.Ytjppanekddljbaa.H
set_option linter.unusedVariables false
set_option linter.unusedSimpArgs false
open Go.RowKit Go.Proofs.Ytjppanekddljbaa.Pr Go.Proofs.YtjppanekddljbaaW.PrintWords Go.Proofs.YtjppanekddljbaaW.PrintLast Go.Proofs.YtjppanekddljbaaW.PrintMore
open Go.Proofs.Ytjppanekddljbaa.Fl Go.Proofs.Ytjppanekddljbaa.Lb

theorem u64_nat {l : List Int} (h : ∀ x ∈ l, (Lit.int .u64 x).wf = true) : l = U (l.map Int.toNat) ∧ ∀ x ∈ l.map Int.toNat, x < 18446744073709551616 := by
  induction l with
  | nil => exact ⟨rfl, fun x h => by simp at h⟩
  | cons a l ih =>
    obtain ⟨e, hl⟩ := ih fun x hx => h x (by simp [hx])
    have ha := h a (by simp)
    rw [Lit.wf_int_iff] at ha; have e1 : IntKind.u64.min = 0 := rfl; have e2 : IntKind.u64.max = 18446744073709551615 := rfl; rw [e1, e2] at ha
    refine ⟨?_, fun x hx => ?_⟩
    · have h1 : ((a.toNat : Nat) : Int) = a := by omega
      simp only [U, List.map_cons, h1]
      rw [← show U (l.map Int.toNat) = (l.map Int.toNat).map (Nat.cast : Nat → Int) from rfl, ← e]
    · simp only [List.map_cons, List.mem_cons] at hx
      rcases hx with rfl | hx
      · omega
      · exact hl x hx

set_option maxHeartbeats 4000000 in
set_option maxRecDepth 100000 in
theorem totals_calls (A : Option Addr) (c : Nat) (l : List Int) (w : World) (hr : Kd.C (Kd.int .u64) w A l.length l) (hc : l.length ≤ c) (hl : l.length ≤ 17592186044416)
    (hwf : ∀ x ∈ l, (Lit.int .u64 x).wf = true) :
    Calls Try.prog 4 #[.slice A l.length c] w fun e w' => e = .returned (.bool true) ∧ Below w.heap.size w w' := by
  obtain ⟨eU, hN⟩ := u64_nat hwf
  have hev := total_ev hN (by simpa using hl)
  rw [← eU] at hev
  obtain ⟨k, hk⟩ := hev.rounds
  obtain ⟨z, hz⟩ : ∃ z, z = sumC (l.map Int.toNat) := ⟨_, rfl⟩
  rw [← hz] at hk
  have HZ : Aside0 ((sumF (l.map Int.toNat)).getD 9221120237041090561 = z) := ⟨hz.symm⟩
  have HK := Aside0.mk hk
  have HWF := Aside0.mk hwf
  clear hz eU hev hk hN hwf
  have hbits := run_bits
  go_enter Try.func4, Try.ntmps4
  go_wp2_with (fail)
  refine (wakes_calls w).mono ?_
  rintro e w1 ⟨rfl, hb1⟩
  have HR := Aside0.mk (Kd.C_below hr hb1)
  go_wp2_with (fail)
  refine (floats_calls A c l w1 HR.out hc hl).mono ?_
  rintro e w2 ⟨v2, rfl, ho2, hb2⟩
  obtain ⟨A2, c2, e2, hl2, hc2⟩ := Kd.R_reads ho2
  subst e2
  have HB := Aside0.mk (below_step hb1 hb2)
  have HR2 := Aside0.mk (Kd.C_below HR.out hb2)
  have HC2 := Aside0.mk hc2
  clear hb1 hb2 ho2 hc2 HR hr
  go_wp2_with (fail)
  have ht := total_calls _ _ (l.map Int.toNat) _ HC2.out hl2
  rw [HZ.out, List.length_map] at ht
  refine ht.mono ?_
  clear ht HZ
  rintro e w3 ⟨rfl, ⟨n3, rfl⟩⟩
  go_wp2_with (fail)
  have hk := HK.out
  have ht := sibylref21_Total.calls k A c l (z : Int) (w2.drewN n3) (Kd.C_drewN HR2.out n3) hc hk
  clear hk
  refine ht.mono ?_
  clear ht
  rintro e w4 ⟨rfl, hb4⟩
  have HB4 := Aside0.mk (below_step (pw_below_drewN HB.out _) hb4)
  clear hb4
  go_wp2_with (fail)
  go_ret
  exact ⟨by simp, HB4.out⟩
end Go.Proofs.Ytjppanekddljbaa.H
