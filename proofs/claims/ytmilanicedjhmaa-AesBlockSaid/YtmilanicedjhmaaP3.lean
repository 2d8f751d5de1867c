/- Plain laws: the table of bytes as the program reckons it is the reference's. No program in sight. -/
import Derived.Test.YtmilanicedjhmaaF2
namespace Go.Proofs.Ytmilanicedjhmaa
open Go.RowKit

def qa (b : UInt8) : UInt8 := UInt8.ofNat (b.toNat ^^^ (b.toNat * 2 % 256))
def qb (b : UInt8) : UInt8 := UInt8.ofNat (b.toNat ^^^ (b.toNat * 4 % 256))
def qc (b : UInt8) : UInt8 := UInt8.ofNat (b.toNat ^^^ (b.toNat * 16 % 256))
def qd (b : UInt8) : UInt8 := UInt8.ofNat (b.toNat ^^^ (b.toNat / 128 * 9))
theorem qa_walk : ∀ b : UInt8, bits .xor .u8 b.toNat (b.toNat * 2 % 256) = ((qa b).toNat : Int) := all8 (by decide +kernel)
theorem qb_walk : ∀ b : UInt8, bits .xor .u8 b.toNat (b.toNat * 4 % 256) = ((qb b).toNat : Int) := all8 (by decide +kernel)
theorem qc_walk : ∀ b : UInt8, bits .xor .u8 b.toNat (b.toNat * 16 % 256) = ((qc b).toNat : Int) := all8 (by decide +kernel)
theorem qd_walk : ∀ b : UInt8, bits .xor .u8 b.toNat (b.toNat / 128 * 9 % 256) = ((qd b).toNat : Int) := all8 (by decide +kernel)
def qval (q : UInt8) : UInt8 := q ^^^ rot 1 q ^^^ rot 2 q ^^^ rot 3 q ^^^ rot 4 q ^^^ 0x63

structure GS where
  p : UInt8
  q : UInt8
  l : List UInt8
def GS.next (s : GS) : GS :=
  let p := s.p ^^^ xt s.p
  let q := qd (qc (qb (qa s.q)))
  ⟨p, q, s.l.set p.toNat (qval q)⟩
def gs : Nat → GS
  | 0 => ⟨1, 1, List.replicate 256 0⟩
  | k + 1 => (gs k).next
theorem gs_len (k : Nat) : (gs k).l.length = 256 := by
  induction k with
  | zero => exact List.length_replicate
  | succ k ih => rw [gs, GS.next]; simpa using ih
/-- The first round whose p is 1, not before n. -/
def firstOne : Nat → GS → Bool
  | 0, s => s.next.p == 1
  | n + 1, s => s.next.p != 1 && firstOne n s.next
theorem first_one : firstOne 254 (gs 0) = true := by decide +kernel
theorem firstOne_spec : ∀ (n j : Nat), firstOne n (gs j) = true → (gs (j + n + 1)).p = 1 ∧ ∀ k, j ≤ k → k < j + n → (gs (k + 1)).p ≠ 1
  | 0, j, h => ⟨by rw [firstOne, beq_iff_eq] at h; exact h, fun k h1 h2 => absurd h2 (by omega)⟩
  | n + 1, j, h => by
    simp only [firstOne, Bool.and_eq_true, bne_iff_ne, ne_eq] at h
    obtain ⟨h1, h2⟩ := firstOne_spec n (j + 1) h.2
    refine ⟨by rw [show j + (n + 1) + 1 = j + 1 + n + 1 by omega]; exact h1, fun k h3 h4 => ?_⟩
    rcases Nat.eq_or_lt_of_le h3 with e | e
    · subst e; exact h.1
    · exact h2 k e (by omega)
theorem gs_end : (gs 255).p = 1 := (firstOne_spec 254 0 first_one).1
theorem gs_on (k : Nat) (h : k < 254) : (gs (k + 1)).p ≠ 1 := (firstOne_spec 254 0 first_one).2 k (by omega) (by omega)
theorem gs_box : (gs 255).l.set 0 0x63 = tab 256 sbox := by decide +kernel
end Go.Proofs.Ytmilanicedjhmaa
