/- Plain laws: mixing back undoes mixing; the tables undo each other. No program in sight. -/
import Derived.Test.YtmilanicedjhmaaP4
import Derived.Test.YtmilanicedjhmaaF5
namespace Go.Proofs.Ytmilanicedjhmaa
open Go.RowKit

theorem xt_bits (b : UInt8) : xt b = (b <<< 1) ^^^ (if b.toBitVec.msb then (0x1b : UInt8) else 0) := by
  revert b
  exact all8 (by decide +kernel)
theorem xt_xor (x y : UInt8) : xt (x ^^^ y) = xt x ^^^ xt y := by
  rw [xt_bits, xt_bits, xt_bits]
  have h1 : (x ^^^ y) <<< 1 = (x <<< 1) ^^^ (y <<< 1) := by
    apply UInt8.toBitVec_inj.1
    simp [BitVec.shiftLeft_xor_distrib]
  have h2 : (x ^^^ y).toBitVec.msb = (x.toBitVec.msb ^^ y.toBitVec.msb) := by simp
  rw [h1, h2]
  cases x.toBitVec.msb <;> cases y.toBitVec.msb <;> simp
  · rw [UInt8.xor_assoc]
  · ac_rfl
  · rw [show x <<< 1 ^^^ (27 : UInt8) ^^^ (y <<< 1 ^^^ (27 : UInt8)) = (x <<< 1 ^^^ y <<< 1) ^^^ ((27 : UInt8) ^^^ (27 : UInt8)) by ac_rfl]; simp
theorem gmul_1 : ∀ b : UInt8, gmul b 1 = b := all8 (by decide +kernel)
theorem gmul_3 : ∀ b : UInt8, gmul b 3 = b ^^^ xt b := all8 (by decide +kernel)
theorem gmul_9 : ∀ b : UInt8, gmul b 9 = b ^^^ xt (xt (xt b)) := all8 (by decide +kernel)
theorem gmul_11 : ∀ b : UInt8, gmul b 11 = b ^^^ xt b ^^^ xt (xt (xt b)) := all8 (by decide +kernel)
theorem gmul_13 : ∀ b : UInt8, gmul b 13 = b ^^^ xt (xt b) ^^^ xt (xt (xt b)) := all8 (by decide +kernel)
theorem gmul_14 : ∀ b : UInt8, gmul b 14 = xt b ^^^ xt (xt b) ^^^ xt (xt (xt b)) := all8 (by decide +kernel)
/-- The rows of factors. -/
def mFwd (r : Nat) : UInt8 := [2, 3, 1, 1].getD r 0
def mBwd (r : Nat) : UInt8 := [14, 11, 13, 9].getD r 0
theorem col_fb (a b c d : UInt8) :
    gmul (gmul a 2 ^^^ gmul b 3 ^^^ gmul c 1 ^^^ gmul d 1) 14 ^^^ gmul (gmul a 1 ^^^ gmul b 2 ^^^ gmul c 3 ^^^ gmul d 1) 11 ^^^
    gmul (gmul a 1 ^^^ gmul b 1 ^^^ gmul c 2 ^^^ gmul d 3) 13 ^^^ gmul (gmul a 3 ^^^ gmul b 1 ^^^ gmul c 1 ^^^ gmul d 2) 9 = a := by
  have hl : ∀ (f : UInt8), (f = 9 ∨ f = 11 ∨ f = 13 ∨ f = 14) → ∀ x y, gmul (x ^^^ y) f = gmul x f ^^^ gmul y f := by
    rintro f (rfl | rfl | rfl | rfl) x y
    · simp only [gmul_9, xt_xor]; ac_rfl
    · simp only [gmul_11, xt_xor]; ac_rfl
    · simp only [gmul_13, xt_xor]; ac_rfl
    · simp only [gmul_14, xt_xor]; ac_rfl
  have ha : ∀ a : UInt8, gmul (gmul a 2) 14 ^^^ gmul (gmul a 1) 11 ^^^ gmul (gmul a 1) 13 ^^^ gmul (gmul a 3) 9 = a := all8 (by decide +kernel)
  have hb : ∀ a : UInt8, gmul (gmul a 3) 14 ^^^ gmul (gmul a 2) 11 ^^^ gmul (gmul a 1) 13 ^^^ gmul (gmul a 1) 9 = 0 := all8 (by decide +kernel)
  have hc : ∀ a : UInt8, gmul (gmul a 1) 14 ^^^ gmul (gmul a 3) 11 ^^^ gmul (gmul a 2) 13 ^^^ gmul (gmul a 1) 9 = 0 := all8 (by decide +kernel)
  have hd : ∀ a : UInt8, gmul (gmul a 1) 14 ^^^ gmul (gmul a 1) 11 ^^^ gmul (gmul a 3) 13 ^^^ gmul (gmul a 2) 9 = 0 := all8 (by decide +kernel)
  rw [hl 14 (by simp), hl 14 (by simp), hl 14 (by simp), hl 11 (by simp), hl 11 (by simp), hl 11 (by simp), hl 13 (by simp), hl 13 (by simp), hl 13 (by simp), hl 9 (by simp), hl 9 (by simp), hl 9 (by simp)]
  have e : ∀ p q r s t u v w x y z a' b' c' d' e' : UInt8, p ^^^ q ^^^ r ^^^ s ^^^ (t ^^^ u ^^^ v ^^^ w) ^^^ (x ^^^ y ^^^ z ^^^ a') ^^^ (b' ^^^ c' ^^^ d' ^^^ e') =
    (p ^^^ t ^^^ x ^^^ b') ^^^ (q ^^^ u ^^^ y ^^^ c') ^^^ (r ^^^ v ^^^ z ^^^ d') ^^^ (s ^^^ w ^^^ a' ^^^ e') := by intros; ac_rfl
  rw [e, ha, hb, hc, hd]
  simp
theorem col_bf (a b c d : UInt8) :
    gmul (gmul a 14 ^^^ gmul b 11 ^^^ gmul c 13 ^^^ gmul d 9) 2 ^^^ gmul (gmul a 9 ^^^ gmul b 14 ^^^ gmul c 11 ^^^ gmul d 13) 3 ^^^
    gmul (gmul a 13 ^^^ gmul b 9 ^^^ gmul c 14 ^^^ gmul d 11) 1 ^^^ gmul (gmul a 11 ^^^ gmul b 13 ^^^ gmul c 9 ^^^ gmul d 14) 1 = a := by
  have hl : ∀ (f : UInt8), (f = 1 ∨ f = 2 ∨ f = 3) → ∀ x y, gmul (x ^^^ y) f = gmul x f ^^^ gmul y f := by
    rintro f (rfl | rfl | rfl) x y
    · simp only [gmul_1]
    · simp only [gmul_two, xt_xor]
    · simp only [gmul_3, xt_xor]; ac_rfl
  have ha : ∀ a : UInt8, gmul (gmul a 14) 2 ^^^ gmul (gmul a 9) 3 ^^^ gmul (gmul a 13) 1 ^^^ gmul (gmul a 11) 1 = a := all8 (by decide +kernel)
  have hb : ∀ a : UInt8, gmul (gmul a 11) 2 ^^^ gmul (gmul a 14) 3 ^^^ gmul (gmul a 9) 1 ^^^ gmul (gmul a 13) 1 = 0 := all8 (by decide +kernel)
  have hc : ∀ a : UInt8, gmul (gmul a 13) 2 ^^^ gmul (gmul a 11) 3 ^^^ gmul (gmul a 14) 1 ^^^ gmul (gmul a 9) 1 = 0 := all8 (by decide +kernel)
  have hd : ∀ a : UInt8, gmul (gmul a 9) 2 ^^^ gmul (gmul a 13) 3 ^^^ gmul (gmul a 11) 1 ^^^ gmul (gmul a 14) 1 = 0 := all8 (by decide +kernel)
  rw [hl 2 (by simp), hl 2 (by simp), hl 2 (by simp), hl 3 (by simp), hl 3 (by simp), hl 3 (by simp), hl 1 (by simp), hl 1 (by simp), hl 1 (by simp), hl 1 (by simp), hl 1 (by simp), hl 1 (by simp)]
  have e : ∀ p q r s t u v w x y z a' b' c' d' e' : UInt8, p ^^^ q ^^^ r ^^^ s ^^^ (t ^^^ u ^^^ v ^^^ w) ^^^ (x ^^^ y ^^^ z ^^^ a') ^^^ (b' ^^^ c' ^^^ d' ^^^ e') =
    (p ^^^ t ^^^ x ^^^ b') ^^^ (q ^^^ u ^^^ y ^^^ c') ^^^ (r ^^^ v ^^^ z ^^^ d') ^^^ (s ^^^ w ^^^ a' ^^^ e') := by intros; ac_rfl
  rw [e, ha, hb, hc, hd]
  simp
end Go.Proofs.Ytmilanicedjhmaa
