/- Plain laws: products in the field of GHASH commute. No program in sight. -/
import Derived.Test.YtmilanicedjhmaaF17
namespace Go.Proofs.Ytmilanicedjhmaa
open Go.RowKit
set_option linter.unusedSimpArgs false

/-! ### Sums of moved elements -/
def sumB (c : Nat → Nat) (F : Nat → Nat → UInt8) : Nat → Nat → UInt8
  | 0 => fun _ => 0
  | n + 1 => addIf (c n) (sumB c F n) (F n)
/-- Moved k times. -/
def stepN : Nat → (Nat → UInt8) → Nat → UInt8
  | 0, y => y
  | k + 1, y => stepF (stepN k y)
theorem mulS_eq (x y : Nat → UInt8) (n : Nat) : mulS x y n = (sumB (xbit x) (fun k => stepN k y) n, stepN n y) := by
  induction n with
  | zero => rfl
  | succ n ih => simp only [mulS, ih, sumB, stepN]
theorem mulF_sum (x y : Nat → UInt8) : mulF x y = sumB (xbit x) (fun k => stepN k y) 128 := by
  unfold mulF
  rw [mulS_eq]
theorem shr_byte (a b p q : UInt8) : UInt8.ofNat ((a ^^^ b).toNat / 2 + if (p ^^^ q).toNat % 2 = 1 then 128 else 0) = UInt8.ofNat (a.toNat / 2 + if p.toNat % 2 = 1 then 128 else 0) ^^^ UInt8.ofNat (b.toNat / 2 + if q.toNat % 2 = 1 then 128 else 0) := by
  have ha := a.toNat_lt; have hb := b.toNat_lt
  have h1 : (a.toNat ^^^ b.toNat) / 2 = (a.toNat / 2) ^^^ (b.toNat / 2) := Nat.xor_div_two
  have h2 : (p.toNat ^^^ q.toNat) % 2 = (p.toNat % 2) ^^^ (q.toNat % 2) := Nat.xor_mod_two_pow (n := 1)
  have hl : ∀ n, n < 128 → ∀ m, m < 128 → (n ^^^ m) < 128 := fun n hn m hm => Nat.xor_lt_two_pow (n := 7) hn hm
  have hx := hl (a.toNat / 2) (by omega) (b.toNat / 2) (by omega)
  have key : ∀ n, n < 128 → ∀ t, (t = 0 ∨ t = 128) → n + t = n ^^^ t := fun n hn t ht => by
    rcases ht with rfl | rfl
    · simp
    · have := Nat.two_pow_add_eq_or_of_lt (i := 7) (b := n) hn 1
      have h3 := cat_xor
      have h4 : (128 : Nat) = 2 ^ 7 * 1 := rfl
      apply Nat.eq_of_testBit_eq
      intro i
      rw [Nat.add_comm, h4, this, Nat.testBit_or, Nat.testBit_xor, Nat.mul_one, Nat.testBit_two_pow]
      by_cases hi : 7 = i
      · subst hi
        rw [Nat.testBit_lt_two_pow hn]
        simp
      · simp [hi]
  apply UInt8.toNat_inj.1
  simp only [UInt8.toNat_xor, UInt8.toNat_ofNat', h1, h2]
  rcases Nat.mod_two_eq_zero_or_one p.toNat with hp | hp <;> rcases Nat.mod_two_eq_zero_or_one q.toNat with hq | hq <;> simp only [hp, hq] <;> simp
  · rw [Nat.mod_eq_of_lt (by omega), Nat.mod_eq_of_lt (by omega), Nat.mod_eq_of_lt (by omega)]
  · rw [Nat.mod_eq_of_lt (by omega), Nat.mod_eq_of_lt (by omega), Nat.mod_eq_of_lt (by omega), key _ hx 128 (.inr rfl), key _ (by omega) 128 (.inr rfl), Nat.xor_assoc]
  · rw [Nat.mod_eq_of_lt (by omega), Nat.mod_eq_of_lt (by omega), Nat.mod_eq_of_lt (by omega), key _ hx 128 (.inr rfl), key _ (by omega) 128 (.inr rfl), Nat.xor_assoc, Nat.xor_assoc, Nat.xor_comm 128]
  · rw [Nat.mod_eq_of_lt (by omega), Nat.mod_eq_of_lt (by omega), Nat.mod_eq_of_lt (by omega), key (a.toNat / 2) (by omega) 128 (.inr rfl), key (b.toNat / 2) (by omega) 128 (.inr rfl), Nat.xor_assoc, ← Nat.xor_assoc 128, Nat.xor_comm 128, Nat.xor_assoc, Nat.xor_self, Nat.xor_zero]
theorem shr_xor (a b : Nat → UInt8) (j : Nat) : shrF (fun j => a j ^^^ b j) j = shrF a j ^^^ shrF b j := by
  unfold shrF
  by_cases h : 0 < j
  · simpa [h] using shr_byte (a j) (b j) (a (j - 1)) (b (j - 1))
  · simpa [h] using shr_byte (a j) (b j) 0 0
theorem step_xor (a b : Nat → UInt8) : stepF (fun j => a j ^^^ b j) = fun j => stepF a j ^^^ stepF b j := by
  funext j
  have h2 : ((a 15) ^^^ (b 15)).toNat % 2 = ((a 15).toNat % 2) ^^^ ((b 15).toNat % 2) := by rw [UInt8.toNat_xor]; exact Nat.xor_mod_two_pow (n := 1)
  unfold stepF
  by_cases h : j = 0
  · subst h
    rcases Nat.mod_two_eq_zero_or_one (a 15).toNat with hp | hp <;> rcases Nat.mod_two_eq_zero_or_one (b 15).toNat with hq | hq <;> simp [h2, hp, hq, shr_xor]
    · rw [UInt8.xor_assoc]
    · rw [UInt8.xor_assoc, UInt8.xor_assoc, UInt8.xor_comm 225]
    · rw [UInt8.xor_assoc, ← UInt8.xor_assoc 225, UInt8.xor_comm 225, UInt8.xor_assoc (shrF b 0), UInt8.xor_self, UInt8.xor_zero]
  · simp [h, shr_xor]
theorem step_zero : stepF (fun _ => 0) = fun _ => 0 := by
  funext j
  unfold stepF shrF
  simp
theorem step_addIf (t : Nat) (z y : Nat → UInt8) : stepF (addIf t z y) = addIf t (stepF z) (stepF y) := by
  by_cases h : t = 1
  · have e : addIf t z y = fun j => z j ^^^ y j := by funext j; simp [addIf, h]
    rw [e, step_xor]
    funext j
    simp [addIf, h]
  · have e : addIf t z y = z := by funext j; simp [addIf, h]
    rw [e]
    funext j
    simp [addIf, h]
theorem step_sum (c : Nat → Nat) (F : Nat → Nat → UInt8) (n : Nat) : stepF (sumB c F n) = sumB c (fun l => stepF (F l)) n := by
  induction n with
  | zero => exact step_zero
  | succ n ih => simp only [sumB, step_addIf, ih]
theorem stepN_sum (k : Nat) (c : Nat → Nat) (F : Nat → Nat → UInt8) (n : Nat) : stepN k (sumB c F n) = sumB c (fun l => stepN k (F l)) n := by
  induction k with
  | zero => rfl
  | succ k ih => simp only [stepN, ih, step_sum]
theorem stepN_add (k l : Nat) (y : Nat → UInt8) : stepN k (stepN l y) = stepN (k + l) y := by
  induction k with
  | zero => rw [Nat.zero_add]; rfl
  | succ k ih => rw [show k + 1 + l = (k + l) + 1 by omega]; simp only [stepN, ih]
theorem sum_zero (c : Nat → Nat) (n : Nat) : sumB c (fun _ _ => 0) n = fun _ => 0 := by
  induction n with
  | zero => rfl
  | succ n ih =>
    simp only [sumB, ih]
    funext j
    simp [addIf]
theorem sum_addIf (c : Nat → Nat) (t : Nat) (A B : Nat → Nat → UInt8) (n : Nat) : sumB c (fun k => addIf t (A k) (B k)) n = addIf t (sumB c A n) (sumB c B n) := by
  induction n with
  | zero => funext j; simp [sumB, addIf]
  | succ n ih =>
    simp only [sumB, ih]
    funext j
    by_cases h : t = 1 <;> by_cases h2 : c n = 1 <;> simp [addIf, h, h2]
    rw [UInt8.xor_assoc, UInt8.xor_assoc, ← UInt8.xor_assoc (sumB c B n j), UInt8.xor_comm (sumB c B n j), UInt8.xor_assoc]
theorem sum_swap (c d : Nat → Nat) (G : Nat → Nat → Nat → UInt8) (n m : Nat) : sumB c (fun k => sumB d (fun l => G k l) m) n = sumB d (fun l => sumB c (fun k => G k l) n) m := by
  induction m with
  | zero => exact sum_zero c n
  | succ m ih => simp only [sumB, sum_addIf, ih]
/-! ### One bit -/
def bitF (l j : Nat) : UInt8 := if j = l / 8 then UInt8.ofNat (2 ^ (7 - l % 8)) else 0
theorem byte_bits : ∀ n < 256, (((((((((if n / 128 % 2 = 1 then (128 : UInt8) else 0) ^^^ (if n / 64 % 2 = 1 then (64 : UInt8) else 0)) ^^^ (if n / 32 % 2 = 1 then (32 : UInt8) else 0)) ^^^ (if n / 16 % 2 = 1 then (16 : UInt8) else 0)) ^^^ (if n / 8 % 2 = 1 then (8 : UInt8) else 0)) ^^^ (if n / 4 % 2 = 1 then (4 : UInt8) else 0)) ^^^ (if n / 2 % 2 = 1 then (2 : UInt8) else 0)) ^^^ (if n / 1 % 2 = 1 then (1 : UInt8) else 0)) = UInt8.ofNat n) := by decide +kernel
theorem addIf_at (t : Nat) (z y : Nat → UInt8) (j : Nat) : addIf t z y j = z j ^^^ (if t = 1 then y j else 0) := by
  unfold addIf
  split <;> simp
theorem bits_of (y : Nat → UInt8) (m j : Nat) : sumB (xbit y) bitF (8 * m) j = if j < m then y j else 0 := by
  induction m generalizing j with
  | zero => simp [sumB]
  | succ m ih =>
    rw [show 8 * (m + 1) = 8 * m + 1 + 1 + 1 + 1 + 1 + 1 + 1 + 1 by omega]
    simp only [sumB, addIf_at, ih]
    have hx : ∀ r, r < 8 → xbit y (8 * m + r) = (y m).toNat / 2 ^ (7 - r) % 2 := fun r hr => by
      unfold xbit
      rw [show (8 * m + r) / 8 = m by omega, show (8 * m + r) % 8 = r by omega]
    have hb : ∀ r, r < 8 → bitF (8 * m + r) j = if j = m then UInt8.ofNat (2 ^ (7 - r)) else 0 := fun r hr => by
      unfold bitF
      rw [show (8 * m + r) / 8 = m by omega, show (8 * m + r) % 8 = r by omega]
    have x0 := hx 0 (by omega); have x1 := hx 1 (by omega); have x2 := hx 2 (by omega); have x3 := hx 3 (by omega)
    have x4 := hx 4 (by omega); have x5 := hx 5 (by omega); have x6 := hx 6 (by omega); have x7 := hx 7 (by omega)
    have b0 := hb 0 (by omega); have b1 := hb 1 (by omega); have b2 := hb 2 (by omega); have b3 := hb 3 (by omega)
    have b4 := hb 4 (by omega); have b5 := hb 5 (by omega); have b6 := hb 6 (by omega); have b7 := hb 7 (by omega)
    simp only [Nat.add_zero] at *
    rw [x0, x1, x2, x3, x4, x5, x6, x7, b0, b1, b2, b3, b4, b5, b6, b7]
    by_cases h : j = m
    · subst h
      have hk := byte_bits (y j).toNat (y j).toNat_lt
      simp only [Nat.reducePow, Nat.reduceSub, if_true, Nat.lt_irrefl, if_false, Nat.lt_add_one]
      rw [UInt8.ofNat_toNat] at hk
      refine Eq.trans ?_ hk
      simp
    · simp only [h, if_false, ite_self, UInt8.xor_zero]
      by_cases h2 : j < m
      · rw [if_pos h2, if_pos (by omega)]
      · rw [if_neg h2, if_neg (by omega)]
theorem step_bit (l : Nat) (hl : l < 127) : stepF (bitF l) = bitF (l + 1) := by
  obtain ⟨q, r, hr, rfl⟩ : ∃ q r, r < 8 ∧ l = 8 * q + r := ⟨l / 8, l % 8, by omega, by omega⟩
  have e1 : ∀ j, bitF (8 * q + r) j = if j = q then UInt8.ofNat (2 ^ (7 - r)) else 0 := fun j => by
    unfold bitF
    rw [show (8 * q + r) / 8 = q by omega, show (8 * q + r) % 8 = r by omega]
  have h15 : ¬ (bitF (8 * q + r) 15).toNat % 2 = 1 := by
    rw [e1]
    by_cases hq : 15 = q
    · rw [if_pos hq]
      match r, hr, (show r < 7 by omega) with
      | 0, _, _ => decide
      | 1, _, _ => decide
      | 2, _, _ => decide
      | 3, _, _ => decide
      | 4, _, _ => decide
      | 5, _, _ => decide
      | 6, _, _ => decide
    · rw [if_neg hq]; decide
  funext j
  unfold stepF
  rw [if_neg (fun h => h15 h.2)]
  unfold shrF
  rw [e1, e1]
  by_cases h7 : r = 7
  · subst h7
    unfold bitF
    rw [show (8 * q + 7 + 1) / 8 = q + 1 by omega, show (8 * q + 7 + 1) % 8 = 0 by omega]
    by_cases ha : j = q
    · subst ha
      have hn : ¬ (0 < j ∧ (if j - 1 = j then UInt8.ofNat (2 ^ (7 - 7)) else 0).toNat % 2 = 1) := by
        rintro ⟨h0, h⟩
        rw [if_neg (by omega)] at h
        revert h; decide
      rw [if_pos rfl, if_neg hn, if_neg (by omega)]
      decide
    · rw [if_neg ha]
      by_cases hb : j = q + 1
      · subst hb
        simp
      · rw [if_neg hb]
        have hn : ¬ (0 < j ∧ (if j - 1 = q then UInt8.ofNat (2 ^ (7 - 7)) else 0).toNat % 2 = 1) := by
          rintro ⟨h0, h⟩
          rw [if_neg (by omega)] at h
          revert h; decide
        rw [if_neg hn]
        rfl
  · unfold bitF
    rw [show (8 * q + r + 1) / 8 = q by omega, show (8 * q + r + 1) % 8 = r + 1 by omega]
    have hev : ¬ (0 < j ∧ (if j - 1 = q then UInt8.ofNat (2 ^ (7 - r)) else 0).toNat % 2 = 1) := by
      rintro ⟨-, h⟩
      by_cases hq : j - 1 = q
      · rw [if_pos hq] at h
        match r, hr, (show r < 7 by omega), h with
        | 0, _, _, h => revert h; decide
        | 1, _, _, h => revert h; decide
        | 2, _, _, h => revert h; decide
        | 3, _, _, h => revert h; decide
        | 4, _, _, h => revert h; decide
        | 5, _, _, h => revert h; decide
        | 6, _, _, h => revert h; decide
      · rw [if_neg hq] at h
        revert h; decide
    rw [if_neg hev]
    by_cases ha : j = q
    · rw [if_pos ha, if_pos ha]
      match r, hr, (show r < 7 by omega) with
      | 0, _, _ => decide
      | 1, _, _ => decide
      | 2, _, _ => decide
      | 3, _, _ => decide
      | 4, _, _ => decide
      | 5, _, _ => decide
      | 6, _, _ => decide
    · rw [if_neg ha, if_neg ha]
      rfl
theorem stepN_bit (l : Nat) (hl : l < 128) : stepN l (bitF 0) = bitF l := by
  induction l with
  | zero => rfl
  | succ l ih => rw [stepN, ih (by omega), step_bit l (by omega)]
theorem sum_congr (c : Nat → Nat) (F G : Nat → Nat → UInt8) (n : Nat) (h : ∀ k < n, F k = G k) : sumB c F n = sumB c G n := by
  induction n with
  | zero => rfl
  | succ n ih => simp only [sumB]; rw [ih (fun k hk => h k (by omega)), h n (by omega)]
/-- Cut behind 16 bytes. -/
def cutF (y : Nat → UInt8) (j : Nat) : UInt8 := if j < 16 then y j else 0
theorem cut_sum (y : Nat → UInt8) : cutF y = sumB (xbit y) (fun l => stepN l (bitF 0)) 128 := by
  rw [sum_congr _ _ bitF 128 (fun k hk => stepN_bit k hk)]
  funext j
  exact (bits_of y 16 j).symm
theorem mul_cut_comm (x y : Nat → UInt8) : mulF x (cutF y) = mulF y (cutF x) := by
  rw [mulF_sum, mulF_sum, cut_sum, cut_sum]
  simp only [stepN_sum, stepN_add]
  rw [sum_swap]
  simp only [Nat.add_comm]
theorem step_low (a b : Nat → UInt8) (h : ∀ j < 16, a j = b j) : ∀ j < 16, stepF a j = stepF b j := fun j hj => by
  have h1 := h (j - 1) (by omega)
  have h2 := h 0 (by omega)
  unfold stepF shrF
  rw [h 15 (by omega), h j hj, h1, h2]
theorem mulS_low (x a b : Nat → UInt8) (h : ∀ j < 16, a j = b j) (n : Nat) : (∀ j < 16, (mulS x a n).1 j = (mulS x b n).1 j) ∧ ∀ j < 16, (mulS x a n).2 j = (mulS x b n).2 j := by
  induction n with
  | zero => exact ⟨fun _ _ => rfl, h⟩
  | succ n ih => exact ⟨fun j hj => by simp only [mulS, addIf_at, ih.1 j hj, ih.2 j hj], fun j hj => step_low _ _ ih.2 j hj⟩
/-- PRODUCTS COMMUTE. -/
theorem mulF_comm (x y : Nat → UInt8) (j : Nat) (hj : j < 16) : mulF x y j = mulF y x j := by
  have h1 : mulF x y j = mulF x (cutF y) j := (mulS_low x y (cutF y) (fun j hj => by unfold cutF; rw [if_pos hj]) 128).1 j hj
  have h2 : mulF y x j = mulF y (cutF x) j := (mulS_low y x (cutF x) (fun j hj => by unfold cutF; rw [if_pos hj]) 128).1 j hj
  rw [h1, h2, mul_cut_comm]
end Go.Proofs.Ytmilanicedjhmaa
