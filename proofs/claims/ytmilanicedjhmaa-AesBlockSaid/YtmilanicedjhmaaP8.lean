/- Plain laws: elements of the field of GHASH as bytes and as numbers. No program in sight. -/
import Derived.Test.YtmilanicedjhmaaF14
namespace Go.Proofs.Ytmilanicedjhmaa
open Go.RowKit

/-- Bit number i, the first one of the first byte. -/
def xbit (f : Nat → UInt8) (i : Nat) : Nat := (f (i / 8)).toNat / 2 ^ (7 - i % 8) % 2
theorem bit_of (P b s : Nat) (hs : s < 8) : (P * 256 + b) / 2 ^ s % 2 = b / 2 ^ s % 2 := by
  match s, hs with
  | 0, _ => simp only [Nat.pow_zero]; omega
  | 1, _ => simp only [Nat.reducePow]; omega
  | 2, _ => simp only [Nat.reducePow]; omega
  | 3, _ => simp only [Nat.reducePow]; omega
  | 4, _ => simp only [Nat.reducePow]; omega
  | 5, _ => simp only [Nat.reducePow]; omega
  | 6, _ => simp only [Nat.reducePow]; omega
  | 7, _ => simp only [Nat.reducePow]; omega
theorem g64_at (f : Nat → UInt8) (q : Nat) (hq : q < 8) : ∃ P, g64 f / 2 ^ (8 * (7 - q)) = P * 256 + (f q).toNat := by
  have h1 := (f 1).toNat_lt; have h2 := (f 2).toNat_lt; have h3 := (f 3).toNat_lt; have h4 := (f 4).toNat_lt
  have h5 := (f 5).toNat_lt; have h6 := (f 6).toNat_lt; have h7 := (f 7).toNat_lt
  unfold g64
  match q, hq with
  | 0, _ => exact ⟨0, by simp only [Nat.reducePow, Nat.reduceMul, Nat.reduceSub]; omega⟩
  | 1, _ => exact ⟨(f 0).toNat, by simp only [Nat.reducePow, Nat.reduceMul, Nat.reduceSub]; omega⟩
  | 2, _ => exact ⟨(f 0).toNat * 256 + (f 1).toNat, by simp only [Nat.reducePow, Nat.reduceMul, Nat.reduceSub]; omega⟩
  | 3, _ => exact ⟨((f 0).toNat * 256 + (f 1).toNat) * 256 + (f 2).toNat, by simp only [Nat.reducePow, Nat.reduceMul, Nat.reduceSub]; omega⟩
  | 4, _ => exact ⟨(((f 0).toNat * 256 + (f 1).toNat) * 256 + (f 2).toNat) * 256 + (f 3).toNat, by simp only [Nat.reducePow, Nat.reduceMul, Nat.reduceSub]; omega⟩
  | 5, _ => exact ⟨((((f 0).toNat * 256 + (f 1).toNat) * 256 + (f 2).toNat) * 256 + (f 3).toNat) * 256 + (f 4).toNat, by simp only [Nat.reducePow, Nat.reduceMul, Nat.reduceSub]; omega⟩
  | 6, _ => exact ⟨(((((f 0).toNat * 256 + (f 1).toNat) * 256 + (f 2).toNat) * 256 + (f 3).toNat) * 256 + (f 4).toNat) * 256 + (f 5).toNat, by simp only [Nat.reducePow, Nat.reduceMul, Nat.reduceSub]; omega⟩
  | 7, _ => exact ⟨((((((f 0).toNat * 256 + (f 1).toNat) * 256 + (f 2).toNat) * 256 + (f 3).toNat) * 256 + (f 4).toNat) * 256 + (f 5).toNat) * 256 + (f 6).toNat, by simp only [Nat.reducePow, Nat.reduceMul, Nat.reduceSub]; omega⟩
theorem g64_bit (f : Nat → UInt8) (i : Nat) (hi : i < 64) : g64 f / 2 ^ (63 - i) % 2 = xbit f i := by
  obtain ⟨P, hP⟩ := g64_at f (i / 8) (by omega)
  rw [show 63 - i = 8 * (7 - i / 8) + (7 - i % 8) by omega, Nat.pow_add, ← Nat.div_div_eq_div_mul, hP, bit_of _ _ _ (by omega)]
  rfl
theorem bit_hi (f : Nat → UInt8) (i : Nat) (hi : i < 64) : g64 f / 2 ^ (63 - i % 64) % 2 = xbit f i := by
  rw [Nat.mod_eq_of_lt hi]
  exact g64_bit f i hi
theorem bit_lo (f : Nat → UInt8) (i : Nat) (h0 : 64 ≤ i) (hi : i < 128) : g64 (fun j => f (8 + j)) / 2 ^ (63 - i % 64) % 2 = xbit f i := by
  have hm : i % 64 = i - 64 := by omega
  rw [hm, g64_bit _ (i - 64) (by omega)]
  unfold xbit
  simp only
  rw [show 8 + (i - 64) / 8 = i / 8 by omega, show (i - 64) % 8 = i % 8 by omega]
theorem g64_lt (f : Nat → UInt8) : g64 f < 18446744073709551616 := by
  have h0 := (f 0).toNat_lt; have h1 := (f 1).toNat_lt; have h2 := (f 2).toNat_lt; have h3 := (f 3).toNat_lt; have h4 := (f 4).toNat_lt
  have h5 := (f 5).toNat_lt; have h6 := (f 6).toNat_lt; have h7 := (f 7).toNat_lt
  unfold g64
  omega
theorem cat_xor (a c b d : Nat) (hb : b < 256) (hd : d < 256) : (a * 256 + b) ^^^ (c * 256 + d) = (a ^^^ c) * 256 + (b ^^^ d) := by
  have h1 : ((a * 256 + b) ^^^ (c * 256 + d)) / 2 ^ 8 = (a ^^^ c) := by
    rw [Nat.xor_div_two_pow]
    congr 1 <;> omega
  have h2 : ((a * 256 + b) ^^^ (c * 256 + d)) % 2 ^ 8 = (b ^^^ d) := by
    rw [Nat.xor_mod_two_pow]
    congr 1 <;> omega
  simp only [Nat.reducePow] at h1 h2
  omega
theorem g64_xor (f k : Nat → UInt8) : g64 f ^^^ g64 k = g64 fun j => f j ^^^ k j := by
  unfold g64
  have h := fun j => (f j).toNat_lt
  have h' := fun j => (k j).toNat_lt
  rw [cat_xor _ _ _ _ (h 7) (h' 7), cat_xor _ _ _ _ (h 6) (h' 6), cat_xor _ _ _ _ (h 5) (h' 5), cat_xor _ _ _ _ (h 4) (h' 4), cat_xor _ _ _ _ (h 3) (h' 3), cat_xor _ _ _ _ (h 2) (h' 2), cat_xor _ _ _ _ (h 1) (h' 1)]
  simp only [UInt8.toNat_xor]
/-- A byte of an element that is moved by one bit. -/
def shrF (y : Nat → UInt8) (j : Nat) : UInt8 := UInt8.ofNat ((y j).toNat / 2 + if 0 < j ∧ (y (j - 1)).toNat % 2 = 1 then 128 else 0)
def stepF (y : Nat → UInt8) (j : Nat) : UInt8 := if j = 0 ∧ (y 15).toNat % 2 = 1 then shrF y 0 ^^^ 0xe1 else shrF y j
theorem shrF_val (y : Nat → UInt8) (j : Nat) : (shrF y j).toNat = (y j).toNat / 2 + (if 0 < j then (y (j - 1)).toNat % 2 else 0) * 128 := by
  unfold shrF
  have := (y j).toNat_lt
  rw [UInt8.toNat_ofNat']
  by_cases h0 : 0 < j <;> by_cases h1 : (y (j - 1)).toNat % 2 = 1 <;> simp [h0, h1] <;> omega
theorem step_lo (y : Nat → UInt8) : g64 (fun j => stepF y (8 + j)) = g64 (fun j => y (8 + j)) / 2 + (g64 y % 2) * 9223372036854775808 := by
  have e : ∀ j, stepF y (8 + j) = shrF y (8 + j) := fun j => by unfold stepF; rw [if_neg (by omega)]
  have h8 := (y 8).toNat_lt; have h9 := (y 9).toNat_lt; have h10 := (y 10).toNat_lt; have h11 := (y 11).toNat_lt
  have h12 := (y 12).toNat_lt; have h13 := (y 13).toNat_lt; have h14 := (y 14).toNat_lt; have h15 := (y 15).toNat_lt
  unfold g64
  simp only [e, shrF_val]
  simp
  omega
theorem shr_hi (y : Nat → UInt8) : g64 (shrF y) = g64 y / 2 := by
  have h0 := (y 0).toNat_lt; have h1 := (y 1).toNat_lt; have h2 := (y 2).toNat_lt; have h3 := (y 3).toNat_lt
  have h4 := (y 4).toNat_lt; have h5 := (y 5).toNat_lt; have h6 := (y 6).toNat_lt; have h7 := (y 7).toNat_lt
  unfold g64
  simp only [shrF_val]
  simp
  omega
theorem step_hi (y : Nat → UInt8) : g64 (stepF y) = (g64 y / 2) ^^^ (if (y 15).toNat % 2 = 1 then 16212958658533785600 else 0) := by
  rw [← shr_hi]
  by_cases h : (y 15).toNat % 2 = 1
  · rw [if_pos h, show (16212958658533785600 : Nat) = g64 (fun j => if j = 0 then 0xe1 else 0) by decide, g64_xor]
    unfold g64
    simp [stepF, h]
  · rw [if_neg h, Nat.xor_zero]
    congr 1
    funext j
    simp [stepF, h]
end Go.Proofs.Ytmilanicedjhmaa
