/- nats.QuoRem, the branches that are used here. -/
import Derived.Test.YtjppanekddljbaaH4
namespace Go.Proofs.Ytjppanekddljbaa.Pr
open Go.RowKit Go.Proofs.Ytjppanekddljbaa.H Go.Proofs.YtjppanekddljbaaW.PrintWords Go.Proofs.YtjppanekddljbaaW.PrintLast Go.Proofs.YtjppanekddljbaaW.PrintMore
set_option linter.unusedVariables false
set_option linter.unusedSimpArgs false

/-! nats.QuoRem where the divisor is greater, or is one limb (all that a chance's denominators come to) -/
def nats_QuoRem.f (k : Nat) (l0 : List Int) (l1 : List Int) : Option (List Int × List Int) :=
  (nats_Cmp.f k (cutL l0) (cutL l1)).bind fun c => if c < 0 then ((nats_Trim.f k (cutL l0)).bind fun t => some (([] : List Int), t))
    else if (cutL l1).length = 1 then ((nats_word.f k (cutL l0) (rd (cutL l1) 0)).bind fun b => (nats_cut.f k [b.2]).bind fun t => some (b.1, t)) else none
theorem nats_QuoRem.mono : ∀ a0 a1 k, LeO (nats_QuoRem.f k a0 a1) (nats_QuoRem.f (k + 1) a0 a1) := by
  intro a0 a1 k
  unfold nats_QuoRem.f
  refine LeO.bind (nats_Cmp.mono _ _ _) (fun c => LeO.ite ?_ (LeO.ite ?_ (LeO.none _)))
  · exact LeO.bind (nats_Trim.mono _ _) (fun _ => LeO.refl _)
  · exact LeO.bind (nats_word.mono _ _ _) (fun _ => LeO.bind (nats_cut.mono _ _) (fun _ => LeO.refl _))

theorem R_any {v : Value} {w w' : World} {xs : List Int} (h : Kd.R (Kd.int .u32) 99 w' w.heap.size (fun _ => True) v xs) (u : Value) (hne : ∀ k, v.ownBlock = some k → u.ownBlock ≠ some k) :
    Kd.R (Kd.int .u32) 99 w' w.heap.size (fun k_ => some k_ ≠ u.ownBlock) v xs :=
  Kd.R_mono (Kd.R_tight rfl h) (fun k hk he => hne k hk.symm he.symm)

theorem below_undrewN {w w' : World} {n : Nat} (h : Below (w.drewN n).heap.size (w.drewN n) w') : Below w.heap.size w w' :=
  below_then (pw_below_drewN (Below.refl _ _) n) (Nat.le_refl _) h

set_option maxHeartbeats 2000000 in
theorem nats_QuoRem.calls (k : Nat) (A0 : Option Addr) (c0 : Nat) (l0 : List Int) (A1 : Option Addr) (c1 : Nat) (l1 : List Int) (r1 : List Int) (r2 : List Int) (w : World) (hr0 : Kd.C (Kd.int .u32) w A0 l0.length l0) (hc0 : l0.length ≤ c0) (hr1 : Kd.C (Kd.int .u32) w A1 l1.length l1) (hc1 : l1.length ≤ c1) (h : nats_QuoRem.f k l0 l1 = some (r1, r2)) :
    Calls Try.prog 91 #[.slice A0 l0.length c0, .slice A1 l1.length c1] w fun e w' => ∃ v0_ v1_ : Value, e = .returned (.tuple #[v0_, v1_]) ∧ Kd.R (Kd.int .u32) 99 w' w.heap.size (fun k_ => some k_ ≠ (v1_ : Value).ownBlock) v0_ r1 ∧ Kd.R (Kd.int .u32) 99 w' w.heap.size (fun k_ => some k_ ≠ (v0_ : Value).ownBlock) v1_ r2 ∧ Below w.heap.size w w' := by
  have HQ0 := Aside0.mk hr0
  have HQC0 := Aside0.mk hc0
  have HQ1 := Aside0.mk hr1
  have HQC1 := Aside0.mk hc1
  have HR0 := Aside0.mk (C_cutL hr0)
  have HR1 := Aside0.mk (C_cutL hr1)
  have HC0 := Aside0.mk (Nat.le_trans (cutL_le l0) hc0)
  have HC1 := Aside0.mk (Nat.le_trans (cutL_le l1) hc1)
  clear hr0 hr1 hc0 hc1
  unfold nats_QuoRem.f at h
  obtain ⟨q0, hq0⟩ : ∃ q : List Int, cutL l0 = q := ⟨_, rfl⟩
  obtain ⟨q1, hq1⟩ : ∃ q : List Int, cutL l1 = q := ⟨_, rfl⟩
  rw [hq0, hq1] at h
  rw [hq0] at HR0 HC0
  rw [hq1] at HR1 HC1
  have N0 := Aside0.mk hq0
  have N1 := Aside0.mk hq1
  clear hq0 hq1
  obtain ⟨c, hc, h⟩ := Option.bind_eq_some_iff.mp h
  have AC := Aside0.mk hc
  clear hc
  by_cases hlt : c < 0
  · rw [if_pos hlt] at h
    obtain ⟨t, ht, h⟩ := Option.bind_eq_some_iff.mp h
    have AT := Aside0.mk ht
    clear ht
    simp only [Option.some.injEq, Prod.mk.injEq] at h
    obtain ⟨rfl, rfl⟩ := h
    have hltb : decide (c < 0) = true := decide_eq_true hlt
    clear hlt
    go_enter Try.func91, Try.ntmps91
    go_wp2_with (first
      | ((with_reducible refine gate_callee (f := 92) rfl ?_); refine goesL_ (some 14) rfl rfl Try.func92 (by kernel_rfl) rfl #[.slice A0 l0.length c0] rfl (by (try simp only [List.map_toArray, List.map_cons, List.map_nil]); first | done | rfl) ?_; (with_reducible refine (cut_reads A0 c0 l0 _ ?hq0 HQC0.out).mono ?_); (case hq0 => exact HQ0.out); rintro e w' ⟨rfl, ⟨nd, rfl⟩⟩; refine ⟨_, rfl, ?_⟩; rw [N0.out])
      | ((with_reducible refine gate_callee (f := 92) rfl ?_); refine goesL_ (some 16) rfl rfl Try.func92 (by kernel_rfl) rfl #[.slice A1 l1.length c1] rfl (by (try simp only [List.map_toArray, List.map_cons, List.map_nil]); first | done | rfl) ?_; (with_reducible refine (cut_reads A1 c1 l1 _ ?hq1 HQC1.out).mono ?_); (case hq1 => exact HQ1.out); rintro e w' ⟨rfl, ⟨nd, rfl⟩⟩; refine ⟨_, rfl, ?_⟩; rw [N1.out])
      | (go_at_call 97; refine (nats_Cmp.calls k A0 c0 q0 A1 c1 q1 c _ ?a1 HC0.out ?a2 HC1.out AC.out).mono ?_; (case a1 => exact HR0.out); (case a2 => exact HR1.out); rintro e w' ⟨rfl, ⟨nd, rfl⟩⟩)
      | (go_at_call 64; refine (nats_Trim.calls k A0 c0 q0 t _ ?a3 HC0.out AT.out).mono ?_; (case a3 => exact HR0.out); rintro e w' ⟨v0, rfl, ho, hb⟩; have HO := Aside0.mk ho; have HB := Aside0.mk hb; clear ho hb))
    go_ret2
    exact ⟨_, _, rfl, Kd.R_nil _ _ _ _ _, R_any HO.out _ (fun k _ => by simp [Value.ownBlock]), below_undrewN HB.out⟩
  · rw [if_neg hlt] at h
    by_cases hone : q1.length = 1
    · rw [if_pos hone] at h
      obtain ⟨⟨qq, rr⟩, hw, h⟩ := Option.bind_eq_some_iff.mp h
      obtain ⟨t, ht, h⟩ := Option.bind_eq_some_iff.mp h
      have AW := Aside0.mk hw
      have AT := Aside0.mk ht
      clear hw ht
      simp only [Option.some.injEq, Prod.mk.injEq] at h
      obtain ⟨rfl, rfl⟩ := h
      have hltb : decide (c < 0) = false := decide_eq_false hlt
      have honeb : ((q1.length : Int) == 1) = true := beq_iff_eq.mpr (by omega)
      obtain ⟨ad, e, hx⟩ := Kd.at_int HR1.out 0 (by omega) (by omega)
      cases e
      have hge : (0 : Int) < (q1.length : Int) := by omega
      have hx2 : w.cell? ad = some (.int .u32 (rd q1 0)) := by simpa [go_sem] using hx
      clear hlt hone hx
      go_enter Try.func91, Try.ntmps91
      go_wp2_with (first
        | ((with_reducible refine gate_callee (f := 92) rfl ?_); refine goesL_ (some 14) rfl rfl Try.func92 (by kernel_rfl) rfl #[.slice A0 l0.length c0] rfl (by (try simp only [List.map_toArray, List.map_cons, List.map_nil]); first | done | rfl) ?_; (with_reducible refine (cut_reads A0 c0 l0 _ ?hq0 HQC0.out).mono ?_); (case hq0 => exact HQ0.out); rintro e w' ⟨rfl, ⟨nd, rfl⟩⟩; refine ⟨_, rfl, ?_⟩; rw [N0.out])
        | ((with_reducible refine gate_callee (f := 92) rfl ?_); refine goesL_ (some 16) rfl rfl Try.func92 (by kernel_rfl) rfl #[.slice (some ad) l1.length c1] rfl (by (try simp only [List.map_toArray, List.map_cons, List.map_nil]); first | done | rfl) ?_; (with_reducible refine (cut_reads (some ad) c1 l1 _ ?hq1 HQC1.out).mono ?_); (case hq1 => exact HQ1.out); rintro e w' ⟨rfl, ⟨nd, rfl⟩⟩; refine ⟨_, rfl, ?_⟩; rw [N1.out])
        | (go_at_call 97; refine (nats_Cmp.calls k A0 c0 q0 (some ad) c1 q1 c _ ?a1 HC0.out ?a2 HC1.out AC.out).mono ?_; (case a1 => exact HR0.out); (case a2 => exact HR1.out); rintro e w' ⟨rfl, ⟨nd, rfl⟩⟩)
        | (go_at_call 98; refine (nats_word.calls k A0 c0 q0 (rd q1 0) qq rr _ ?a3 HC0.out AW.out).mono ?_; (case a3 => exact HR0.out); rintro e w1 ⟨v0, rfl, ho, hb⟩; have HO := Aside0.mk ho; have HB := Aside0.mk (below_undrewN (w := w) hb); clear ho hb)
        | ((with_reducible refine gate_dst (N := 36) rfl ?_); refine Kd.R_lit (Kd.int .u32) _ 99 ?hg (N := 36) ?hd (xs := ([rr] : List Int)) (inner := [.int .u32 rr]) (ok := fun _ => True) (okp := fun _ => True) ?hr ?hp (fun _ hk => hk) trivial (Below.refl _ _) (Nat.le_refl _) (by simp) ?_; (case hd => rfl); (case hg => rfl); (case hr => first | (go_simp; done) | (go_simp; rfl)); (case hp => exact (Reps.one (show Kd.M (Kd.int .u32) _ _ _ rr [.int .u32 rr] from rfl) (Reps.none _ _))); intro v2 w2 ho2 hb2 hg_ hnew_; clear hg_ hnew_; have HO2 := Aside0.mk ho2; have HB2 := Aside0.mk hb2; clear ho2 hb2)
        | ((with_reducible refine gate_callee (f := 92) rfl ?_); refine goesL_ (some 37) rfl rfl Try.func92 (by kernel_rfl) rfl #[v2] rfl (by (try simp only [List.map_toArray, List.map_cons, List.map_nil]); first | done | rfl) ?_; (with_reducible refine (nats_cut.calls k (fun _ => True) v2 [rr] t w1 _ ?s1 ?s2 AT.out).mono ?_); (case s1 => exact HB2.out); (case s2 => exact HO2.out); rintro e w3 ⟨v3, rfl, ho3, hb3, hk3⟩; refine ⟨_, rfl, ?_⟩; have HO3 := Aside0.mk ho3; have HB3 := Aside0.mk hb3; clear ho3 hb3 hk3))
      go_ret2
      have hlt1 := own_lt (Kd.own_of_R HO.out)
      have hge3 := own_base (Kd.own_of_R HO3.out)
      refine ⟨_, _, rfl, ?_, ?_, ?_⟩
      · refine R_any (w := w) (Kd.R_below HO.out HB3.out) _ (fun k hk he => ?_)
        have a := hlt1 k hk
        have b := hge3 k he
        omega
      · refine R_any (w := w) (Kd.R_mono (Kd.R_lower HO3.out HB.out.size) (fun _ _ => trivial)) _ (fun k hk he => ?_)
        have a := hlt1 k he
        have b := hge3 k hk
        omega
      · exact below_then HB.out HB.out.size HB3.out
    · rw [if_neg hone] at h
      exact absurd h (by simp)
end Go.Proofs.Ytjppanekddljbaa.Pr
