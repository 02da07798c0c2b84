/- What the reference's limb functions answer: sums, differences, shifts. -/
import Derived.Test.YtjppanekddljbaaB1
namespace Go.Proofs.Ytjppanekddljbaa.Lb
set_option linter.unusedVariables false
set_option linter.unusedSimpArgs false
open Go.RowKit Go.Proofs.Ytjppanekddljbaa.Pr Go.Proofs.YtjppanekddljbaaW.PrintWords Go.Proofs.YtjppanekddljbaaW.PrintLast Go.Proofs.YtjppanekddljbaaW.PrintMore

theorem Ev.step2 {α : Type} {g f : Nat → Option α} {r : α} (h : ∀ k, g (k + 1 + 1) = f k) (hf : Ev f r) : Ev g r := by
  obtain ⟨K, hf⟩ := hf
  refine ⟨K + 2, fun n hn => ?_⟩
  obtain ⟨m, rfl⟩ : ∃ m, n = m + 1 + 1 := ⟨n - 2, by omega⟩
  rw [h]
  exact hf m (by omega)
theorem wuN {n : Nat} (h : n < 18446744073709551616) : IntKind.u64.wrap (n : Int) = (n : Int) := wu64 (by omega) (by omega)
theorem tmodB (s : Nat) : Int.tmod (s : Int) 4294967296 % 4294967296 = ((s % 4294967296 : Nat) : Int) := by
  rw [show (4294967296 : Int) = ((4294967296 : Nat) : Int) from rfl, ← Int.ofNat_tmod]
  omega
theorem tdivB (s : Nat) : Int.tdiv (s : Int) 4294967296 = ((s / 4294967296 : Nat) : Int) := rfl
theorem modB {s : Nat} (h : s < 4294967296) : (s : Int) % 4294967296 = (s : Int) := by omega
theorem val_drop (l : List Nat) (i : Nat) : val (l.drop i) = l.getD i 0 + 4294967296 * val (l.drop (i + 1)) := by
  rcases Nat.lt_or_ge i l.length with h | h
  · rw [List.drop_eq_getElem_cons h, val, List.getD, List.getElem?_eq_getElem h]; rfl
  · rw [List.drop_of_length_le h, List.drop_of_length_le (by omega), List.getD, List.getElem?_eq_none h]; rfl

/-! Plus -/
theorem plus_round {a b : List Nat} (ha : Lim a) (hb : Lim b) (hla : a.length ≤ 500000) (hlb : b.length ≤ 500000) {i c : Nat} (hc : c ≤ 1) {x : List Int} (hx : x.length = i) (hi : i < a.length ∨ i < b.length) (k : Nat) :
    sibylref01_Plus.l0 (k + 1 + 1) (U a) (U b) x (c : Int) (i : Int) = sibylref01_Plus.l0 k (U a) (U b) (x ++ [(((c + a.getD i 0 + b.getD i 0) % 4294967296 : Nat) : Int)]) (((c + a.getD i 0 + b.getD i 0) / 4294967296 : Nat) : Int) ((i + 1 : Nat) : Int) := by
  have h1 := lim_get ha i
  have h2 := lim_get hb i
  have hw : wrap64 ((i : Int) + 1) = ((i + 1 : Nat) : Int) := by unfold wrap64; omega
  simp only [sibylref01_Plus.l0, sibylref01_Plus.j1, U_length]
  rcases Nat.lt_or_ge i a.length with h3 | h3
  · rw [if_pos (by omega), if_pos trivial, if_pos (by omega), if_pos (by omega), rd_U, wuN (by omega), ← Int.natCast_add, wuN (by omega)]
    rcases Nat.lt_or_ge i b.length with h4 | h4
    · rw [if_pos (by omega), if_pos (by omega), rd_U, wuN (by omega), ← Int.natCast_add, wuN (by omega), tmodB, tdivB, wuN (by omega), hw]
    · have h5 : b.getD i 0 = 0 := by rw [List.getD, List.getElem?_eq_none h4]; rfl
      rw [if_neg (by omega), if_pos (by omega), tmodB, tdivB, wuN (by omega), hw, h5]
      simp only [Nat.add_zero]
  · have h4 : i < b.length := by omega
    have h5 : a.getD i 0 = 0 := by rw [List.getD, List.getElem?_eq_none h3]; rfl
    rw [if_neg (by omega), if_pos (by simp; omega), if_neg (by omega), if_pos (by omega), if_pos (by omega), if_pos (by omega), rd_U, wuN (by omega), ← Int.natCast_add, wuN (by omega), tmodB, tdivB, wuN (by omega), hw, h5]
    simp only [Nat.add_zero]
theorem plus_loop {a b : List Nat} (ha : Lim a) (hb : Lim b) (hla : a.length ≤ 500000) (hlb : b.length ≤ 500000) (d : Nat) : ∀ (i c : Nat) (x : List Nat), max a.length b.length - i = d → i ≤ max a.length b.length → c ≤ 1 → x.length = i → Lim x →
    Ev (fun k => sibylref01_Plus.l0 k (U a) (U b) (U x) (c : Int) (i : Int)) (U (norm (val x + 4294967296 ^ i * (c + val (a.drop i) + val (b.drop i))))) := by
  induction d with
  | zero =>
    intro i c x hd hi hc hx hL
    have h1 : a.length ≤ i := by omega
    have h2 : b.length ≤ i := by omega
    refine Ev.step (f := fun k => sibylref01_Plus.j1 k (U a) (U b) (U x) (c : Int) (i : Int) false) (fun k => by
      simp only [sibylref01_Plus.l0, U_length]; rw [if_neg (by omega), show decide ((i : Int) < (b.length : Int)) = false from decide_eq_false (by omega)]) ?_
    refine Ev.step (f := fun k => (sibylref01_Trim.f k (U (x ++ [c]))).bind fun t => some t) (fun k => by
      simp only [sibylref01_Plus.j1, U_length]; rw [if_neg (by decide), if_pos (by omega), modB (by omega), U_append, U_one]) ?_
    rw [List.drop_of_length_le h1, List.drop_of_length_le h2]
    have h3 := trim_ev (l := x ++ [c]) (lim_append hL (lim_one (by omega))) (by simp; omega)
    rw [val_snoc, hx] at h3
    simpa [val] using Ev.bind h3 (Ev.now _)
  | succ d ih =>
    intro i c x hd hi hc hx hL
    have h1 := lim_get ha i
    have h2 := lim_get hb i
    obtain ⟨s, hs⟩ : ∃ s, c + a.getD i 0 + b.getD i 0 = s := ⟨_, rfl⟩
    have hr := fun k => plus_round ha hb hla hlb hc (x := U x) (by rw [U_length]; exact hx) (show i < a.length ∨ i < b.length by omega) k
    rw [hs] at hr
    refine Ev.step2 hr ?_
    have h3 := ih (i + 1) (s / 4294967296) (x ++ [s % 4294967296]) (by omega) (by omega) (by omega) (by simp [hx]) (lim_append hL (lim_one (Nat.mod_lt _ (by decide))))
    have h4 : val (x ++ [s % 4294967296]) + 4294967296 ^ (i + 1) * (s / 4294967296 + val (a.drop (i + 1)) + val (b.drop (i + 1))) = val x + 4294967296 ^ i * (c + val (a.drop i) + val (b.drop i)) := by
      rw [val_snoc, hx, val_drop a i, val_drop b i, Nat.pow_succ, Nat.mul_assoc, Nat.add_assoc, ← Nat.mul_add]
      congr 2
      omega
    rw [h4, U_append, U_one] at h3
    exact h3
theorem plus_ev {a b : List Nat} (ha : Lim a) (hb : Lim b) (hla : a.length ≤ 500000) (hlb : b.length ≤ 500000) : Ev (fun k => sibylref01_Plus.f k (U a) (U b)) (U (norm (val a + val b))) := by
  have := plus_loop ha hb hla hlb (max a.length b.length) 0 0 [] (by omega) (by omega) (by omega) rfl lim_nil
  simpa [sibylref01_Plus.f, U, val] using this

/-! Minus -/
def digM (p w q : Nat) : Nat := if p < w + q then p + 4294967296 - w - q else p - w - q
def borM (p w q : Nat) : Nat := if p < w + q then 1 else 0
theorem set_app (x y : List Nat) (d : Nat) {i : Nat} (hx : x.length = i) (hy : y ≠ []) : (x ++ y).set i d = (x ++ [d]) ++ y.tail := by
  cases y with
  | nil => exact absurd rfl hy
  | cons z y => rw [List.set_append_right _ _ (by omega), hx, Nat.sub_self, List.set_cons_zero, List.append_assoc]; rfl
theorem minus_round {x b y : List Nat} (hx : Lim x) (hb : Lim b) {i w : Nat} (hw : w ≤ 1) (hi : i < y.length) (hl : y.length ≤ 500000) (hy : y.getD i 0 = x.getD i 0) (k : Nat) :
    sibylref01_Minus.l0 (k + 1) (U y) (U b) (w : Int) (i : Int) = sibylref01_Minus.l0 k (U (y.set i (digM (x.getD i 0) w (b.getD i 0)))) (U b) (borM (x.getD i 0) w (b.getD i 0) : Int) ((i + 1 : Nat) : Int) := by
  have h1 := lim_get hx i
  have h2 := lim_get hb i
  have hww : wrap64 ((i : Int) + 1) = ((i + 1 : Nat) : Int) := by unfold wrap64; omega
  simp only [sibylref01_Minus.l0, U_length]
  rw [if_pos (by omega), if_pos (by omega), rd_U, hy, hww, Int.toNat_natCast, ← U_set]
  obtain ⟨p, hp⟩ : ∃ p, x.getD i 0 = p := ⟨_, rfl⟩
  rw [hp] at h1 ⊢
  rw [w64 (x := (p : Int)) (by omega) (by omega), w64 (x := (p : Int) - w) (by omega) (by omega)]
  rcases Nat.lt_or_ge i b.length with h3 | h3
  · rw [if_pos (by omega), rd_U]
    obtain ⟨q, hq⟩ : ∃ q, b.getD i 0 = q := ⟨_, rfl⟩
    rw [hq] at h2 ⊢
    rw [w64 (x := (q : Int)) (by omega) (by omega), w64 (x := (p : Int) - w - q) (by omega) (by omega)]
    by_cases h4 : p < w + q
    · rw [if_pos (by omega), w64 (by omega) (by omega)]
      simp only [digM, borM, if_pos h4]
      congr 2
      omega
    · rw [if_neg (by omega)]
      simp only [digM, borM, if_neg h4]
      congr 2
      omega
  · rw [if_neg (by omega), show b.getD i 0 = 0 by rw [List.getD, List.getElem?_eq_none h3]; rfl]
    by_cases h4 : p < w + 0
    · rw [if_pos (by omega), w64 (by omega) (by omega)]
      simp only [digM, borM, if_pos h4]
      congr 2
      omega
    · rw [if_neg (by omega)]
      simp only [digM, borM, if_neg h4]
      congr 2
      omega
theorem minus_loop {a b : List Nat} (ha : Lim a) (hb : Lim b) (hla : a.length ≤ 500000) (d : Nat) : ∀ (i w : Nat) (x : List Nat), a.length - i = d → i ≤ a.length → w ≤ 1 → x.length = i → Lim x → w + val (b.drop i) ≤ val (a.drop i) →
    Ev (fun k => sibylref01_Minus.l0 k (U (x ++ a.drop i)) (U b) (w : Int) (i : Int)) (U (norm (val x + 4294967296 ^ i * (val (a.drop i) - w - val (b.drop i))))) := by
  induction d with
  | zero =>
    intro i w x hd hi hw hx hL hle
    have h1 : a.drop i = [] := List.drop_of_length_le (by omega)
    rw [h1, List.append_nil]
    refine Ev.step (f := fun k => (sibylref01_Trim.f k (U x)).bind fun t => some t) (fun k => by
      simp only [sibylref01_Minus.l0, U_length]; rw [if_neg (by omega)]) ?_
    have h3 := trim_ev (l := x) hL (by omega)
    simpa [val] using Ev.bind h3 (Ev.now _)
  | succ d ih =>
    intro i w x hd hi hw hx hL hle
    have hlt : i < a.length := by omega
    have hne : a.drop i ≠ [] := fun h => by have := congrArg List.length h; simp at this; omega
    have hgd : (x ++ a.drop i).getD i 0 = a.getD i 0 := by
      rw [List.getD, List.getElem?_append_right (by omega), hx, Nat.sub_self, List.getElem?_drop, Nat.add_zero]; rfl
    have hr := fun k => minus_round (y := x ++ a.drop i) ha hb hw (i := i) (by simp; omega) (by simp; omega) hgd k
    refine Ev.step hr ?_
    have h1 := lim_get ha i
    have h2 := lim_get hb i
    have e1 := val_drop a i
    have e2 := val_drop b i
    obtain ⟨p, hp⟩ : ∃ p, a.getD i 0 = p := ⟨_, rfl⟩
    obtain ⟨q, hq⟩ : ∃ q, b.getD i 0 = q := ⟨_, rfl⟩
    rw [hp] at h1 e1 ⊢
    rw [hq] at h2 e2 ⊢
    rw [set_app x (a.drop i) _ hx hne, List.tail_drop]
    have hdig : digM p w q < 4294967296 := by unfold digM; split <;> omega
    have hkey : p + 4294967296 * borM p w q = digM p w q + w + q := by unfold digM borM; split <;> omega
    have hb1 : borM p w q ≤ 1 := by unfold borM; split <;> omega
    have h3 := ih (i + 1) (borM p w q) (x ++ [digM p w q]) (by omega) (by omega) hb1 (by simp [hx]) (lim_append hL (lim_one hdig)) (by omega)
    have h4 : val (x ++ [digM p w q]) + 4294967296 ^ (i + 1) * (val (a.drop (i + 1)) - borM p w q - val (b.drop (i + 1))) = val x + 4294967296 ^ i * (val (a.drop i) - w - val (b.drop i)) := by
      rw [val_snoc, hx, Nat.pow_succ, Nat.mul_assoc, Nat.add_assoc, ← Nat.mul_add]
      congr 2
      omega
    rw [h4] at h3
    exact h3
theorem minus_ev {a b : List Nat} (ha : Lim a) (hb : Lim b) (hla : a.length ≤ 500000) (hlb : b.length ≤ 500000) (hle : val b ≤ val a) : Ev (fun k => sibylref01_Minus.f k (U a) (U b)) (U (norm (val a - val b))) := by
  unfold sibylref01_Minus.f
  refine Ev.bind (trim_ev ha (by omega)) (Ev.bind (trim_ev hb (by omega)) ?_)
  have n1 := norm_len ha
  have n2 := norm_len hb
  have := minus_loop (lim_norm (val a)) (lim_norm (val b)) (by omega) (norm (val a)).length 0 0 [] (by omega) (by omega) (by omega) rfl lim_nil (by simpa [val_norm] using hle)
  simpa [val_norm, val] using this

/-! Shl -/
theorem pow_lt32 {s : Nat} (h : s < 32) : 2 ^ s ≤ 2147483648 := by
  have : 2 ^ s ≤ 2 ^ 31 := Nat.pow_le_pow_right (by decide) (by omega)
  simpa using this
theorem shl_tmod (n : Nat) : Int.tmod (n : Int) 32 = ((n % 32 : Nat) : Int) := (Int.ofNat_tmod n 32).symm
theorem shl_tdiv (n : Nat) : Int.tdiv (n : Int) 32 = ((n / 32 : Nat) : Int) := rfl
theorem shl_round {a : List Nat} (ha : Lim a) (hla : a.length ≤ 400000) {n i c : Nat} (hc : c < 4294967296) {x : List Int} (hx : x.length ≤ 400000 + i) (hi : i < a.length) (k : Nat) :
    sibylref01_Shl.l0 (k + 1) (U a) (n : Int) x (c : Int) (i : Int) = sibylref01_Shl.l0 k (U a) (n : Int) (x ++ [(((a.getD i 0 * 2 ^ (n % 32) + c) % 4294967296 : Nat) : Int)]) (((a.getD i 0 * 2 ^ (n % 32) + c) / 4294967296 : Nat) : Int) ((i + 1 : Nat) : Int) := by
  have h1 := lim_get ha i
  have hw : wrap64 ((i : Int) + 1) = ((i + 1 : Nat) : Int) := by unfold wrap64; omega
  have hm : n % 32 < 32 := Nat.mod_lt _ (by decide)
  have hp := pow_lt32 hm
  have hmul : a.getD i 0 * 2 ^ (n % 32) ≤ 4294967295 * 2147483648 := Nat.mul_le_mul (by omega) hp
  simp only [sibylref01_Shl.l0, U_length]
  have hs : shl .u64 ((a.getD i 0 : Nat) : Int) ((n % 32 : Nat) : Int) = ((a.getD i 0 * 2 ^ (n % 32) : Nat) : Int) := by
    have e : ((a.getD i 0 : Nat) : Int) * 2 ^ (n % 32) = ((a.getD i 0 * 2 ^ (n % 32) : Nat) : Int) := by
      rw [Int.natCast_mul, Int.natCast_pow]; rfl
    unfold shl
    rw [Int.toNat_natCast, Nat.min_eq_left (by simp [IntKind.bits]; omega), e, wuN (by omega)]
  rw [if_pos (by omega), if_pos (by omega), shl_tmod, wuN (by omega), if_pos (by omega), if_pos (by omega), rd_U, wuN (by omega), hs, ← Int.natCast_add, wuN (by omega), tmodB, tdivB, wuN (by omega), hw]
theorem shl_loop {a : List Nat} (ha : Lim a) (hla : a.length ≤ 400000) (n : Nat) (d : Nat) : ∀ (i c : Nat) (x : List Nat), a.length - i = d → i ≤ a.length → c < 4294967296 → x.length ≤ 400000 + i → Lim x →
    Ev (fun k => sibylref01_Shl.l0 k (U a) (n : Int) (U x) (c : Int) (i : Int)) (U (norm (val x + 4294967296 ^ x.length * (c + val (a.drop i) * 2 ^ (n % 32))))) := by
  induction d with
  | zero =>
    intro i c x hd hi hc hx hL
    refine Ev.step (f := fun k => (sibylref01_Trim.f k (U (x ++ [c]))).bind fun t => some t) (fun k => by
      simp only [sibylref01_Shl.l0, U_length]; rw [if_neg (by omega), if_pos (by omega), modB (by omega), U_append, U_one]) ?_
    rw [List.drop_of_length_le (by omega)]
    have h3 := trim_ev (l := x ++ [c]) (lim_append hL (lim_one hc)) (by simp; omega)
    rw [val_snoc] at h3
    simpa [val] using Ev.bind h3 (Ev.now _)
  | succ d ih =>
    intro i c x hd hi hc hx hL
    have hr := fun k => shl_round ha hla (n := n) hc (x := U x) (by rw [U_length]; exact hx) (show i < a.length by omega) k
    refine Ev.step hr ?_
    have h1 := lim_get ha i
    have hp := pow_lt32 (Nat.mod_lt n (show 0 < 32 by decide))
    have hmul : a.getD i 0 * 2 ^ (n % 32) ≤ 4294967295 * 2147483648 := Nat.mul_le_mul (by omega) hp
    obtain ⟨s, hs⟩ : ∃ s, a.getD i 0 * 2 ^ (n % 32) + c = s := ⟨_, rfl⟩
    rw [hs]
    have h3 := ih (i + 1) (s / 4294967296) (x ++ [s % 4294967296]) (by omega) (by omega) (by omega) (by simp; omega) (lim_append hL (lim_one (Nat.mod_lt _ (by decide))))
    have h4 : val (x ++ [s % 4294967296]) + 4294967296 ^ (x ++ [s % 4294967296]).length * (s / 4294967296 + val (a.drop (i + 1)) * 2 ^ (n % 32)) = val x + 4294967296 ^ x.length * (c + val (a.drop i) * 2 ^ (n % 32)) := by
      rw [val_snoc, List.length_append, List.length_singleton, val_drop a i, Nat.pow_succ, Nat.mul_assoc, Nat.add_assoc, ← Nat.mul_add, Nat.add_mul, Nat.mul_assoc 4294967296]
      congr 2
      omega
    rw [h4, U_append, U_one] at h3
    exact h3
theorem pow32 (n : Nat) : (4294967296 : Nat) ^ n = 2 ^ (32 * n) := by rw [Nat.pow_mul]
theorem shl_ev {a : List Nat} (ha : Lim a) (hla : a.length ≤ 400000) {n : Nat} (hn : n ≤ 1000000) : Ev (fun k => sibylref01_Shl.f k (U a) (n : Int)) (U (norm (val a * 2 ^ n))) := by
  have h := shl_loop ha hla n a.length 0 0 (List.replicate (n / 32) 0) (by omega) (by omega) (by omega) (by simp; omega) (lim_replicate _)
  refine Ev.congr (f := fun k => sibylref01_Shl.l0 k (U a) (n : Int) (U (List.replicate (n / 32) 0)) ((0 : Nat) : Int) ((0 : Nat) : Int)) (fun k => ?_) ?_
  · unfold sibylref01_Shl.f
    rw [shl_tdiv, w64 (by omega) (by omega), if_pos (by omega), if_pos (by rw [Int.toNat_natCast]; omega), Int.toNat_natCast, U_replicate]
    rfl
  · have e : val (List.replicate (n / 32) 0) + 4294967296 ^ (List.replicate (n / 32) 0).length * (0 + val (a.drop 0) * 2 ^ (n % 32)) = val a * 2 ^ n := by
      rw [val_replicate, List.length_replicate, List.drop_zero, Nat.zero_add, Nat.zero_add, pow32, Nat.mul_left_comm, ← Nat.pow_add]
      congr 2
      omega
    rw [e] at h
    exact h

/-! Shr -/
theorem shr_digit {p q v s : Nat} (hs : s < 32) (hp : p < 4294967296) : (p + 4294967296 * (q + 4294967296 * v)) / 2 ^ s = (p + q * 4294967296) / 2 ^ s % 4294967296 + 4294967296 * ((q + 4294967296 * v) / 2 ^ s) := by
  obtain ⟨m, hm⟩ : ∃ m, 4294967296 = 2 ^ s * m := ⟨2 ^ (32 - s), by rw [← Nat.pow_add, show s + (32 - s) = 32 by omega]⟩
  have hpos : 0 < 2 ^ s := Nat.two_pow_pos s
  have e1 : (p + 4294967296 * (q + 4294967296 * v)) / 2 ^ s / 4294967296 = (q + 4294967296 * v) / 2 ^ s := by
    rw [Nat.div_div_eq_div_mul, Nat.mul_comm (2 ^ s), ← Nat.div_div_eq_div_mul]
    congr 1
    omega
  have e2 : (p + 4294967296 * (q + 4294967296 * v)) / 2 ^ s = (p + q * 4294967296) / 2 ^ s + 4294967296 * (m * v) := by
    have : p + 4294967296 * (q + 4294967296 * v) = (p + q * 4294967296) + 2 ^ s * (4294967296 * (m * v)) := by
      rw [Nat.mul_left_comm (2 ^ s), ← Nat.mul_assoc (2 ^ s), ← hm]
      omega
    rw [this, Nat.add_mul_div_left _ _ hpos]
  have e3 : (p + 4294967296 * (q + 4294967296 * v)) / 2 ^ s % 4294967296 = (p + q * 4294967296) / 2 ^ s % 4294967296 := by rw [e2, Nat.add_mul_mod_self_left]
  have := Nat.div_add_mod ((p + 4294967296 * (q + 4294967296 * v)) / 2 ^ s) 4294967296
  rw [e1, e3] at this
  omega
theorem shr_round {a : List Nat} (ha : Lim a) (hla : a.length ≤ 400000) {n i : Nat} {x : List Int} (hx : x.length ≤ i) (hi : i < a.length) (k : Nat) :
    sibylref01_Shr.l0 (k + 1) (U a) (n : Int) x (i : Int) = sibylref01_Shr.l0 k (U a) (n : Int) (x ++ [((((a.getD i 0 + a.getD (i + 1) 0 * 4294967296) / 2 ^ (n % 32)) % 4294967296 : Nat) : Int)]) ((i + 1 : Nat) : Int) := by
  have h1 := lim_get ha i
  have h2 := lim_get ha (i + 1)
  have hw : wrap64 ((i : Int) + 1) = ((i + 1 : Nat) : Int) := by unfold wrap64; omega
  have hm : n % 32 < 32 := Nat.mod_lt _ (by decide)
  have hs : ∀ y : Nat, shr .u64 ((y : Nat) : Int) ((n % 32 : Nat) : Int) = ((y / 2 ^ (n % 32) : Nat) : Int) := fun y => by
    have e : ((2 : Int) ^ (n % 32)) = ((2 ^ (n % 32) : Nat) : Int) := by rw [Int.natCast_pow]; rfl
    unfold shr
    rw [Int.toNat_natCast, Nat.min_eq_left (by simp [IntKind.bits]; omega), e]
    exact (Int.natCast_ediv y _).symm
  simp only [sibylref01_Shr.l0, U_length]
  rw [if_pos (by omega), if_pos (by omega), hw]
  rcases Nat.lt_or_ge (i + 1) a.length with h3 | h3
  · rw [if_pos (by omega), if_pos (by omega), shl_tmod, wuN (by omega), if_pos (by omega), if_pos (by omega), rd_U, wuN (by omega), rd_U, wuN (n := a.getD (i + 1) 0) (by omega),
      show ((a.getD (i + 1) 0 : Nat) : Int) * 4294967296 = ((a.getD (i + 1) 0 * 4294967296 : Nat) : Int) from by omega, wuN (by omega), ← Int.natCast_add, wuN (by omega), hs, tmodB]
  · have h5 : a.getD (i + 1) 0 = 0 := by rw [List.getD, List.getElem?_eq_none h3]; rfl
    rw [if_neg (by omega), shl_tmod, wuN (by omega), if_pos (by omega), if_pos (by omega), rd_U, wuN (by omega), hs, tmodB, h5]
    simp only [Nat.zero_mul, Nat.add_zero]
theorem shr_loop {a : List Nat} (ha : Lim a) (hla : a.length ≤ 400000) (n : Nat) (d : Nat) : ∀ (i : Nat) (x : List Nat), a.length - i = d → x.length ≤ i → x.length ≤ a.length → Lim x →
    Ev (fun k => sibylref01_Shr.l0 k (U a) (n : Int) (U x) (i : Int)) (U (norm (val x + 4294967296 ^ x.length * (val (a.drop i) / 2 ^ (n % 32))))) := by
  induction d with
  | zero =>
    intro i x hd hx hx2 hL
    refine Ev.step (f := fun k => (sibylref01_Trim.f k (U x)).bind fun t => some t) (fun k => by
      simp only [sibylref01_Shr.l0, U_length]; rw [if_neg (by omega)]) ?_
    rw [List.drop_of_length_le (by omega)]
    have h3 := trim_ev (l := x) hL (by omega)
    simpa [val] using Ev.bind h3 (Ev.now _)
  | succ d ih =>
    intro i x hd hx hx2 hL
    have hr := fun k => shr_round ha hla (n := n) (x := U x) (by rw [U_length]; exact hx) (show i < a.length by omega) k
    refine Ev.step hr ?_
    have h1 := lim_get ha i
    obtain ⟨s, hs⟩ : ∃ s, (a.getD i 0 + a.getD (i + 1) 0 * 4294967296) / 2 ^ (n % 32) % 4294967296 = s := ⟨_, rfl⟩
    have hslt : s < 4294967296 := by rw [← hs]; exact Nat.mod_lt _ (by decide)
    rw [hs]
    have h3 := ih (i + 1) (x ++ [s]) (by omega) (by simp; omega) (by simp; omega) (lim_append hL (lim_one hslt))
    have h4 : val (x ++ [s]) + 4294967296 ^ (x ++ [s]).length * (val (a.drop (i + 1)) / 2 ^ (n % 32)) = val x + 4294967296 ^ x.length * (val (a.drop i) / 2 ^ (n % 32)) := by
      rw [val_snoc, List.length_append, List.length_singleton, Nat.pow_succ, Nat.mul_assoc, Nat.add_assoc, ← Nat.mul_add]
      congr 2
      rw [val_drop a i, val_drop a (i + 1), shr_digit (Nat.mod_lt _ (by decide)) h1, hs]
    rw [h4, U_append, U_one] at h3
    exact h3
theorem val_drop_div {l : List Nat} (hL : Lim l) (i : Nat) : val (l.drop i) = val l / 4294967296 ^ i := by
  induction i with
  | zero => simp
  | succ i ih =>
    have h := lim_get hL i
    rw [Nat.pow_succ, ← Nat.div_div_eq_div_mul, ← ih, val_drop l i]
    omega
theorem shr_ev {a : List Nat} (ha : Lim a) (hla : a.length ≤ 400000) {n : Nat} (hn : n ≤ 1000000) : Ev (fun k => sibylref01_Shr.f k (U a) (n : Int)) (U (norm (val a / 2 ^ n))) := by
  have h := shr_loop ha hla n (a.length - n / 32) (n / 32) [] rfl (by simp) (by simp) lim_nil
  refine Ev.congr (f := fun k => sibylref01_Shr.l0 k (U a) (n : Int) (U []) ((n / 32 : Nat) : Int)) (fun k => ?_) ?_
  · unfold sibylref01_Shr.f
    rw [shl_tdiv, w64 (by omega) (by omega)]
    rfl
  · have e : val ([] : List Nat) + 4294967296 ^ ([] : List Nat).length * (val (a.drop (n / 32)) / 2 ^ (n % 32)) = val a / 2 ^ n := by
      rw [val_drop_div ha]
      simp only [val, List.length_nil, Nat.pow_zero, Nat.one_mul, Nat.zero_add]
      rw [pow32, Nat.div_div_eq_div_mul, ← Nat.pow_add]
      congr 2
      omega
    rw [e] at h
    exact h

end Go.Proofs.Ytjppanekddljbaa.Lb
