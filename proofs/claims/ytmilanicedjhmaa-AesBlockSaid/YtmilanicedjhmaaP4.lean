/- Plain laws: the round keys. No program in sight. -/
import Derived.Test.YtmilanicedjhmaaP3
namespace Go.Proofs.Ytmilanicedjhmaa
open Go.RowKit

theorem gmul_two : ∀ b : UInt8, gmul b 2 = xt b := all8 (by decide +kernel)
/-- S of a byte. -/
def S8 (x : UInt8) : UInt8 := sbox x.toNat
/-- The word that is added to the one n words before. -/
def kT (n i : Nat) (rc : UInt8) (w : List UInt8) (r : Nat) : UInt8 :=
  if i % n = 0 then (if r = 0 then S8 (w.getD (4 * i - 4 + 1) 0) ^^^ rc else S8 (w.getD (4 * i - 4 + (r + 1) % 4) 0))
  else if 6 < n ∧ i % n = 4 then S8 (w.getD (4 * i - 4 + r) 0) else w.getD (4 * i - 4 + r) 0
def kWord (n i : Nat) (rc : UInt8) (w : List UInt8) : List UInt8 := tab 4 fun r => w.getD (4 * (i - n) + r) 0 ^^^ kT n i rc w r
/-- Words as they are laid: what is added next, the bytes. -/
def kExp (n : Nat) (key : List UInt8) : Nat → UInt8 × List UInt8
  | 0 => (1, key)
  | k + 1 => let s := kExp n key k; (if (n + k) % n = 0 then xt s.1 else s.1, s.2 ++ kWord n (n + k) s.1 s.2)
theorem kExp_len (n : Nat) (key : List UInt8) (h : key.length = 4 * n) (k : Nat) : (kExp n key k).2.length = 4 * (n + k) := by
  induction k with
  | zero => simpa [kExp] using h
  | succ k ih => simp only [kExp, List.length_append, ih, kWord, tab_length]; omega
/-- All bytes of the round keys. -/
def kAll (n : Nat) (key : List UInt8) : List UInt8 := (kExp n key (3 * n + 28)).2
theorem kAll_len (n : Nat) (key : List UInt8) (h : key.length = 4 * n) : (kAll n key).length = 16 * (n + 7) := by
  rw [kAll, kExp_len n key h]; omega
/-- Round key number k. -/
def rkey (n : Nat) (key : List UInt8) (k j : Nat) : UInt8 := (kAll n key).getD (16 * k + j) 0
end Go.Proofs.Ytmilanicedjhmaa
