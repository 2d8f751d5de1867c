/- The law DiskAll where no device is made. No condition beyond each theorem's own. -/
import Derived.Test.YtadmccbminiadaaE4
import Derived.Deep.RegionLaw
import Derived.Deep.DeepCutAuto
namespace Go.Proofs.Ytadmccbminiadaa
open Go.RowKit

set_option maxRecDepth 100000 in
set_option maxHeartbeats 4000000 in
theorem all_none {w : World} (M : Int) (hM : M < 1 ∨ 65536 < M ∨ (40 < M ∧ M ≤ 65536 ∧ M.tmod 41 = 0)) (A : Option Addr) (n c : Nat) :
    Calls Try.prog 4 #[.int .i64 M, .slice A n c] w (AllOk w) := by
  go_enter Try.func4, Try.ntmps4
  go_upto_region 2 with (go_at_call 7; refine (begun_any _).mono ?_; rintro e w1 ⟨rfl, hb1⟩)
  go_cut [24] from 19 to 24 (fun v wx => ∃ b : Bool, v = .bool b ∧ (b = true → M.tmod 41 = 0) ∧ (b = false → M < 1 ∨ 65536 < M) ∧ wx = w1)
  case first =>
    rcases hM with q | q | ⟨q1, q2, q3⟩
    · have q1 : ¬ (40 : Int) < M := by omega
      go_wp2
      go_meet
      exact ⟨false, rfl, (fun h => by cases h), fun _ => .inl q, rfl⟩
    · have q1 : (40 : Int) < M := by omega
      have q2 : ¬ M ≤ 65536 := by omega
      go_wp2
      go_meet
      exact ⟨false, rfl, (fun h => by cases h), fun _ => .inr q, rfl⟩
    · have Q3 := Lib.hid q3
      clear q3
      go_wp2
      go_meet
      exact ⟨true, rfl, fun _ => Q3.out, (fun h => by cases h), rfl⟩
  case rest =>
    obtain ⟨b, rfl, e1, e2, rfl⟩ := hcut
    go_upto_if 24 with fail
    go_cut [0] from 25 to 26 (fun v wx => ∃ m : Int, v = .int .i64 m ∧ (m < 1 ∨ 65536 < m) ∧ wx = wc)
    case first =>
      cases b
      · have q := e2 rfl
        go_wp2
        go_meet
        exact ⟨M, rfl, q, rfl⟩
      · have q := e1 rfl
        clear e1 e2 hM
        go_wp2
        go_meet
        exact ⟨0, rfl, .inl (by omega), rfl⟩
    case rest =>
      obtain ⟨m, rfl, hm, rfl⟩ := hcut
      clear e1 e2 hM
      go_wp2_with (first
        | (go_at_call 8; refine (new_no m _ hm).mono ?_; rintro e w2 ⟨rfl, rfl⟩)
        | (go_at_call 9; refine (rnew_no m _ hm).mono ?_; rintro e w3 ⟨rfl, rfl⟩))
      go_loopw [6, 8] (fun d i wr => d = .pointer none ∧ i = .int .i64 0 ∧ Below w.heap.size w wr) (fun _ _ _ => 0)
      case atStart => exact ⟨rfl, rfl, hb1.alloc hb1.size _⟩
      case round =>
        obtain ⟨rfl, rfl, hb⟩ := hrel
        clear hb1 hm
        rcases Nat.eq_zero_or_pos n with q | q
        case' inr =>
          have q : (0 : Int) < n := by omega
        case' inl =>
          subst q
        case' inl | inr =>
          go_upto_region 38 with fail
          go_quiet (fail)
          go_wp2
          go_ret
          exact ⟨rfl, hb.os, hb.tape, hb.output, hb.size, hb.block⟩
end Go.Proofs.Ytadmccbminiadaa
