/- Contracts: bytes in the field of 256 elements. No condition beyond each theorem's own. -/
import Derived.Test.YtmilanicedjhmaaP1
namespace Go.Proofs.Ytmilanicedjhmaa
open Go.RowKit
set_option linter.unusedSimpArgs false

theorem twice_any (b : UInt8) (w : World) : Calls Try.prog 46 #[B8 b] w fun e w' => e = .returned (B8 (xt b)) ∧ w = w' := by
  have h := xt_walk b
  go_enter Try.func46, Try.ntmps46
  go_wp2
  go_ret
  exact ⟨rfl, rfl⟩
theorem turn1_any (b : UInt8) (w : World) : Calls Try.prog 78 #[B8 b, .int .u64 1] w fun e w' => e = .returned (B8 (rot 1 b)) ∧ w = w' := by
  have h := rot1_walk b
  go_enter Try.func78, Try.ntmps78
  go_wp2
  go_ret
  exact ⟨rfl, rfl⟩
theorem turn2_any (b : UInt8) (w : World) : Calls Try.prog 78 #[B8 b, .int .u64 2] w fun e w' => e = .returned (B8 (rot 2 b)) ∧ w = w' := by
  have h := rot2_walk b
  go_enter Try.func78, Try.ntmps78
  go_wp2
  go_ret
  exact ⟨rfl, rfl⟩
theorem turn3_any (b : UInt8) (w : World) : Calls Try.prog 78 #[B8 b, .int .u64 3] w fun e w' => e = .returned (B8 (rot 3 b)) ∧ w = w' := by
  have h := rot3_walk b
  go_enter Try.func78, Try.ntmps78
  go_wp2
  go_ret
  exact ⟨rfl, rfl⟩
theorem turn4_any (b : UInt8) (w : World) : Calls Try.prog 78 #[B8 b, .int .u64 4] w fun e w' => e = .returned (B8 (rot 4 b)) ∧ w = w' := by
  have h := rot4_walk b
  go_enter Try.func78, Try.ntmps78
  go_wp2
  go_ret
  exact ⟨rfl, rfl⟩

theorem times_any (b f : UInt8) (w : World) : Calls Try.prog 80 #[B8 b, B8 f] w fun e w' => e = .returned (B8 (gmul b f)) ∧ w = w' := by
  go_enter Try.func80, Try.ntmps80
  go_wp2
  go_loopw [0, 1, 5] (fun vb vf vo wr => ∃ (b1 f1 o1 : UInt8) (m : Nat), vb = B8 b1 ∧ vf = B8 f1 ∧ vo = B8 o1 ∧ f1.toNat < 2 ^ m ∧ gmF m o1 b1 f1 = gmul b f ∧ w = wr) (fun _ vf _ _ => (intOf vf).toNat)
  case atStart => exact ⟨b, f, 0, 8, rfl, rfl, rfl, f.toNat_lt, rfl, rfl⟩
  case round =>
    obtain ⟨b1, f1, o1, m, rfl, rfl, rfl, hm, hg, rfl⟩ := hrel
    by_cases h0 : f1.toNat = 0
    · have hz := (u8_zero f1).2 h0
      rw [hz, gmF_zero] at hg
      have hp : ¬ (0 : Int) < f1.toNat := by omega
      clear hm h0 hz
      go_wp2
      go_ret
      exact ⟨rfl, rfl⟩
    · have hp : (0 : Int) < f1.toNat := by omega
      obtain ⟨m, rfl⟩ : ∃ m', m = m' + 1 := by
        cases m with
        | zero => simp at hm; omega
        | succ m' => exact ⟨m', rfl⟩
      have hne : ¬ f1 = 0 := fun e => h0 ((u8_zero f1).1 e)
      rw [gmF, if_neg hne] at hg
      have hm2 : (f1 / 2).toNat < 2 ^ m := by rw [u8_half]; rw [Nat.pow_succ] at hm; omega
      have ha := and1_walk f1
      have hlt : (intOf (B8 (f1 / 2))).toNat < f1.toNat := by simp [intOf, B8]; omega
      have Hg := Lib.hid hg
      have Hm := Lib.hid hm2
      have Hlt := Lib.hid hlt
      have hx := xor_walk o1 b1
      by_cases hodd : f1.toNat % 2 = 1
      · have Ho := Lib.hid ((u8_odd f1).2 hodd)
        have hq : (f1.toNat : Int) % 2 = 1 := by omega
        clear hg hm2 hm hlt hne hodd
        go_wp2_with (go_at_call 46; refine (twice_any _ _).mono ?_; rintro e w' ⟨rfl, rfl⟩)
        exact ⟨⟨xt b1, f1 / 2, o1 ^^^ b1, m, rfl, by simp [B8], rfl, Hm.out, by have := Hg.out; rwa [if_pos Ho.out] at this, by trivial⟩, by simpa [intOf, B8] using Hlt.out⟩
      · have Ho := Lib.hid (fun e => hodd ((u8_odd f1).1 e))
        have hq : (f1.toNat : Int) % 2 = 0 := by omega
        clear hg hm2 hm hlt hne hodd
        go_wp2_with (go_at_call 46; refine (twice_any _ _).mono ?_; rintro e w' ⟨rfl, rfl⟩)
        exact ⟨⟨xt b1, f1 / 2, o1, m, rfl, by simp [B8], rfl, Hm.out, by have := Hg.out; rwa [if_neg Ho.out] at this, by trivial⟩, by simpa [intOf, B8] using Hlt.out⟩

theorem rtimes_any (b f : UInt8) (w : World) : Calls Try.prog 48 #[B8 b, B8 f] w fun e w' => e = .returned (B8 (gmul b f)) ∧ w = w' := by
  go_enter Try.func48, Try.ntmps48
  go_wp2
  go_loopw [0, 1, 5] (fun vb vf vo wr => ∃ (b1 f1 o1 : UInt8) (m : Nat), vb = B8 b1 ∧ vf = B8 f1 ∧ vo = B8 o1 ∧ f1.toNat < 2 ^ m ∧ gmF m o1 b1 f1 = gmul b f ∧ w = wr) (fun _ vf _ _ => (intOf vf).toNat)
  case atStart => exact ⟨b, f, 0, 8, rfl, rfl, rfl, f.toNat_lt, rfl, rfl⟩
  case round =>
    obtain ⟨b1, f1, o1, m, rfl, rfl, rfl, hm, hg, rfl⟩ := hrel
    by_cases h0 : f1.toNat = 0
    · have hz := (u8_zero f1).2 h0
      rw [hz, gmF_zero] at hg
      have hp : ¬ (0 : Int) < f1.toNat := by omega
      clear hm h0 hz
      go_wp2
      go_ret
      exact ⟨rfl, rfl⟩
    · have hp : (0 : Int) < f1.toNat := by omega
      obtain ⟨m, rfl⟩ : ∃ m', m = m' + 1 := by
        cases m with
        | zero => simp at hm; omega
        | succ m' => exact ⟨m', rfl⟩
      have hne : ¬ f1 = 0 := fun e => h0 ((u8_zero f1).1 e)
      rw [gmF, if_neg hne] at hg
      have hm2 : (f1 / 2).toNat < 2 ^ m := by rw [u8_half]; rw [Nat.pow_succ] at hm; omega
      have hlt : (intOf (B8 (f1 / 2))).toNat < f1.toNat := by simp [intOf, B8]; omega
      have Hg := Lib.hid hg
      have Hm := Lib.hid hm2
      have Hlt := Lib.hid hlt
      have hx := xor_walk o1 b1
      have hge : b1.toNat ≥ 128 ∨ ¬ b1.toNat ≥ 128 := Decidable.em _
      clear hm2 hm hlt hne Hg
      by_cases hodd : f1.toNat % 2 = 1
      · rw [if_pos ((u8_odd f1).2 hodd)] at hg
        have Hg := Lib.hid hg
        have hq : (f1.toNat : Int) % 2 = 1 := by omega
        clear hodd hg
        rcases hge with hge | hge
        · have hb := u8_ge b1 hge
          have hgi : (128 : Int) ≤ b1.toNat := by omega
          clear hge
          go_wp2
          rw [u8_div f1]
          exact ⟨⟨xt b1, f1 / 2, o1 ^^^ b1, m, rfl, rfl, rfl, Hm.out, Hg.out, by trivial⟩, Hlt.out⟩
        · have hb := u8_lt b1 hge
          have hgi : ¬ (128 : Int) ≤ b1.toNat := by omega
          clear hge
          go_wp2
          rw [u8_div f1]
          exact ⟨⟨xt b1, f1 / 2, o1 ^^^ b1, m, rfl, rfl, rfl, Hm.out, Hg.out, by trivial⟩, Hlt.out⟩
      · rw [if_neg (fun e => hodd ((u8_odd f1).1 e))] at hg
        have Hg := Lib.hid hg
        have hq : (f1.toNat : Int) % 2 = 0 := by omega
        clear hodd hg
        rcases hge with hge | hge
        · have hb := u8_ge b1 hge
          have hgi : (128 : Int) ≤ b1.toNat := by omega
          clear hge
          go_wp2
          rw [u8_div f1]
          exact ⟨⟨xt b1, f1 / 2, o1, m, rfl, rfl, rfl, Hm.out, Hg.out, by trivial⟩, Hlt.out⟩
        · have hb := u8_lt b1 hge
          have hgi : ¬ (128 : Int) ≤ b1.toNat := by omega
          clear hge
          go_wp2
          rw [u8_div f1]
          exact ⟨⟨xt b1, f1 / 2, o1, m, rfl, rfl, rfl, Hm.out, Hg.out, by trivial⟩, Hlt.out⟩

/-- a and p after so many rounds of 'inverse'. -/
def invStep : Nat → UInt8 → UInt8 × UInt8
  | 0, a => (a, 1)
  | n + 1, a => let s := invStep n a; (gmul s.1 s.1, gmul s.2 (gmul s.1 s.1))
def inv8 (a : UInt8) : UInt8 := (invStep 7 a).2
theorem inverse_any (b : UInt8) (w : World) : Calls Try.prog 90 #[B8 b] w fun e w' => e = .returned (B8 (inv8 b)) ∧ w = w' := by
  go_enter Try.func90, Try.ntmps90
  go_wp2
  go_loopw [0, 3, 4] (fun va vp vi wr => ∃ k : Nat, k ≤ 7 ∧ va = B8 (invStep k b).1 ∧ vp = B8 (invStep k b).2 ∧ vi = .int .i64 k ∧ w = wr) (fun _ _ vi _ => 7 - (intOf vi).toNat)
  case atStart => exact ⟨0, by omega, rfl, rfl, rfl, rfl⟩
  case round =>
    obtain ⟨k, hk, rfl, rfl, rfl, rfl⟩ := hrel
    by_cases hlt : k < 7
    · have hi : (k : Int) < 7 := by omega
      go_wp2_with (go_at_call 48; refine (rtimes_any _ _ _).mono ?_; rintro e w' ⟨rfl, rfl⟩)
      exact ⟨⟨k + 1, by omega, rfl, rfl, by go_num, by trivial⟩, by simp [intOf]; omega⟩
    · obtain rfl : k = 7 := by omega
      go_wp2
      go_ret
      exact ⟨rfl, rfl⟩
/-- s and x after so many rounds of 'sub'. -/
def subStep : Nat → UInt8 → UInt8 × UInt8
  | 0, x => (0x63, x)
  | n + 1, x => let s := subStep n x; (s.1 ^^^ s.2, rot 1 s.2)
def sub8 (a : UInt8) : UInt8 := (subStep 5 (inv8 a)).1
theorem sub_any (b : UInt8) (w : World) : Calls Try.prog 79 #[B8 b] w fun e w' => e = .returned (B8 (sub8 b)) ∧ w = w' := by
  have hinv := inverse_any b
  unfold sub8
  generalize inv8 b = x at hinv ⊢
  go_enter Try.func79, Try.ntmps79
  go_wp2_with (go_at_call 90; refine (hinv _).mono ?_; rintro e w' ⟨rfl, rfl⟩)
  go_loopw [3, 4, 5] (fun vx vs vi wr => ∃ k : Nat, k ≤ 5 ∧ vx = B8 (subStep k x).2 ∧ vs = B8 (subStep k x).1 ∧ vi = .int .i64 k ∧ w = wr) (fun _ _ vi _ => 5 - (intOf vi).toNat)
  case atStart => exact ⟨0, by omega, rfl, rfl, rfl, rfl⟩
  case round =>
    obtain ⟨k, hk, rfl, rfl, rfl, rfl⟩ := hrel
    by_cases hlt : k < 5
    · have hi : (k : Int) < 5 := by omega
      have hx := xor_walk (subStep k x).1 (subStep k x).2
      have hr := rot1_walk (subStep k x).2
      go_wp2
      exact ⟨⟨k + 1, by omega, rfl, rfl, by go_num, by trivial⟩, by simp [intOf]; omega⟩
    · obtain rfl : k = 5 := by omega
      go_wp2
      go_ret
      exact ⟨rfl, rfl⟩
end Go.Proofs.Ytmilanicedjhmaa
