/- Plain laws: bytes in the field of 256 elements. No program in sight. -/
import Derived.Test.YtmilanicedjhmaaM2
import Derived.Laws.BitsAllLaws
namespace Go.Proofs.Ytmilanicedjhmaa
open Go.RowKit

theorem all8 {P : UInt8 → Prop} (h : ∀ n : Fin 256, P ⟨⟨n⟩⟩) : ∀ b, P b := fun ⟨⟨n⟩⟩ => h n
def xt (b : UInt8) : UInt8 := UInt8.ofNat ((b.toNat * 2 % 256) ^^^ (b.toNat / 128 * 27))
theorem xt_walk : ∀ b : UInt8, bits .xor .u8 (b.toNat * 2 % 256) (b.toNat / 128 * 27 % 256) = ((xt b).toNat : Int) := all8 (by decide +kernel)
def rot (n : Nat) (b : UInt8) : UInt8 := UInt8.ofNat ((b.toNat * 2 ^ n % 256) ||| (b.toNat / 2 ^ (8 - n)))
theorem rot1_walk : ∀ b : UInt8, bits .or .u8 (b.toNat * 2 % 256) (b.toNat / 128) = ((rot 1 b).toNat : Int) := all8 (by decide +kernel)
theorem rot2_walk : ∀ b : UInt8, bits .or .u8 (b.toNat * 4 % 256) (b.toNat / 64) = ((rot 2 b).toNat : Int) := all8 (by decide +kernel)
theorem rot3_walk : ∀ b : UInt8, bits .or .u8 (b.toNat * 8 % 256) (b.toNat / 32) = ((rot 3 b).toNat : Int) := all8 (by decide +kernel)
theorem rot4_walk : ∀ b : UInt8, bits .or .u8 (b.toNat * 16 % 256) (b.toNat / 16) = ((rot 4 b).toNat : Int) := all8 (by decide +kernel)
theorem and1_walk : ∀ b : UInt8, bits .and .u8 b.toNat 1 = (b.toNat : Int) % 2 := all8 (by decide +kernel)
theorem xor_walk (x y : UInt8) : bits .xor .u8 x.toNat y.toNat = ((x ^^^ y).toNat : Int) := by
  rw [u8_xor_nat _ _ x.toNat_lt y.toNat_lt, UInt8.toNat_xor]

/-- A product, from what has been summed up. -/
def gmF : Nat → UInt8 → UInt8 → UInt8 → UInt8
  | 0, out, _, _ => out
  | n + 1, out, b, f => if f = 0 then out else gmF n (if f % 2 = 1 then out ^^^ b else out) (xt b) (f / 2)
def gmul (b f : UInt8) : UInt8 := gmF 8 0 b f
theorem gmF_zero (n : Nat) (out b : UInt8) : gmF n out b 0 = out := by cases n <;> simp [gmF]
theorem u8_half (f : UInt8) : (f / 2).toNat = f.toNat / 2 := by simp
theorem u8_odd (f : UInt8) : f % 2 = 1 ↔ f.toNat % 2 = 1 := by
  constructor
  · intro h
    have := congrArg UInt8.toNat h
    simpa using this
  · intro h
    apply UInt8.toNat_inj.1
    simpa using h
theorem u8_zero (f : UInt8) : f = 0 ↔ f.toNat = 0 := by
  constructor
  · rintro rfl; rfl
  · intro h
    apply UInt8.toNat_inj.1
    simpa using h
theorem u8_ge (b : UInt8) : ∀ _h : b.toNat ≥ 128, bits .xor .u8 (b.toNat * 2 % 256) 27 = ((xt b).toNat : Int) := by
  revert b
  exact all8 (by decide +kernel)
theorem u8_lt (b : UInt8) : ∀ _h : ¬ b.toNat ≥ 128, (b.toNat : Int) * 2 = ((xt b).toNat : Int) := by
  revert b
  exact all8 (by decide +kernel)
theorem u8_div (f : UInt8) : (f.toNat : Int) / 2 % 256 = ((f / 2).toNat : Int) := by
  rw [u8_half]
  have := f.toNat_lt
  omega
end Go.Proofs.Ytmilanicedjhmaa
