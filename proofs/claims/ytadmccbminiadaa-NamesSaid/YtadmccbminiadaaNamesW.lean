/- The walk of the law Names and of num, which it calls. No condition. -/
import Derived.Test.YtadmccbminiadaaProg
import Derived.WalkKit
import Derived.WalkSpells
import Derived.WalkLawsBesides
import Derived.Deep.QuietTactic
import Derived.BigQuiet
import Derived.Great.BuildSlice
namespace Go.Proofs.Ytadmccbminiadaa
open Go.RowKit

def Blk (w : World) (g : Nat) (t : TypeId) (cs : Array Value) : Prop := w.heap[g]? = some (.cells cs t (0, 0))
theorem Blk.cell {w : World} {g : Nat} {t : TypeId} {cs : Array Value} (h : Blk w g t cs) (i : Nat) : w.cell? ⟨g, i, none⟩ = cs[i]? := cell_of_row w g i cs t (0, 0) h

def errsL : List Int := [0, 3, 5, 7, 16, 17, 18, 19, 32, 33, 48, 49, 64, 65, 84, 96, 98, 99, 104, 106, 112, 113, 130, 144, 145, 160, 162, 164, 177, 179, 181, 182, 183, 184, 192, 193, 208, 209, 224, 256, 257, 258, 259, 260, 272, 274, 288, 336]

def allL : List Int := [0, 3, 5, 7, 16, 17, 18, 19, 32, 33, 48, 49, 64, 65, 84, 96, 98, 99, 104, 106, 112, 113, 130, 144, 145, 160, 162, 164, 177, 179, 181, 182, 183, 184, 192, 193, 208, 209, 224, 256, 257, 258, 259, 260, 272, 274, 288, 336, 1, 2, 3, 4, 5, 1, 2, 3, 4, 5, 1, 2, 2, 3, 4, 5, 6, 48, 4096, 65536, 262144, 65536, 64, 16384, 4, 16, 256, 64, 4, 3, 64, 1024, 256, 8, 1, 2, 3, 4, 5, 6, 7, 8, 9, 10, 11, 12, 13, 14, 15, 16, 17, 18, 19, 20, 21, 22, 23, 24, 25, 26, 27, 28, 29, 30, 31, 32, 33, 34, 35, 36, 37, 38, 39, 40, 41, 42, 43, 44, 45, 0, 1, 0, 2, 3, 4, 0, 3, 16, 31, 0, 1, 2, 3, 17, 256, 258, 259, 260, 261, 262, 263, 264, 266, 268, 288, 289, 290, 291, 292, 293, 353, 354, 355, 356, 357, 368, 369, 384, 385, 0, 1, 9, 13, 64, 67, 544, 592, 593, 608, 624, 848, 4160, 4161, 4164, 4176, 4224, 4225, 4226, 4229, 4230, 4231, 4234, 8457]

theorem num_any (n : Int) (w : World) : Calls Try.prog 6 #[.int .i64 n] w fun e w' => e = .returned (.int .i64 n) ∧ w = w' := by
  go_enter Try.func6, Try.ntmps6
  go_wp2
  go_ret
  exact ⟨rfl, rfl⟩

def Two (w : World) (b : Nat) (l : List Int) : Prop := Blk w b 3 (l.map (Value.int .i64)).toArray ∧ Blk w (b + 1) 3 (l.map (Value.int .i64)).toArray
theorem two_new (w : World) (l : List Int) : Two ((w.alloc (.cells (l.map (Value.int .i64)).toArray 3)).alloc (.cells (l.map (Value.int .i64)).toArray 3)) w.heap.size l :=
  ⟨heap_alloc2_old w _ _, heap_alloc2_new w _ _⟩
theorem Two.cells {w : World} {b k : Nat} {l : List Int} (h : Two w b l) (hk : k < l.length) : w.cell? ⟨b, k, none⟩ = some (.int .i64 (l.getD k 0)) ∧ w.cell? ⟨b + 1, k, none⟩ = some (.int .i64 (l.getD k 0)) := by
  rw [h.1.cell, h.2.cell]
  simp [hk]

set_option maxRecDepth 100000 in
set_option maxHeartbeats 1000000 in
theorem names_walk (w : World) : Calls Try.prog 3 #[] w fun e w' => e = .returned (.bool true) ∧ Below w.heap.size w w' := by
  go_enter Try.func3, Try.ntmps3
  go_wp2_with (go_at_call 6; refine (num_any _ _).mono ?_; rintro e w' ⟨rfl, rfl⟩)
  go_loopw [3] (fun i wr => ∃ k : Nat, k ≤ 48 ∧ i = .int .i64 k ∧ Two wr w.heap.size errsL ∧ Below w.heap.size w wr) (fun i _ => 48 - (intOf i).toNat)
  case atStart => exact ⟨0, by omega, rfl, two_new w errsL, ((Below.refl _ _).alloc (Nat.le_refl _) _).alloc (by simp) _⟩
  case round =>
    obtain ⟨k, hk, rfl, ht, hb⟩ := hrel
    by_cases hlt : k < 48
    · obtain ⟨h1, h2⟩ := ht.cells (k := k) hlt
      go_wp2
      go_quiet (fail)
      go_wp2
      exact ⟨⟨k + 1, by omega, by go_num, ht, below_drewN hb _⟩, by simp [intOf]; omega⟩
    · clear ht
      have hwz : w.heap.size ≤ wr.heap.size := hb.size
      go_wp2_with (refine wpList_buildFlat rfl 24 3 191 _ rfl .i64 allL Try.underlying24 (by kernel_rfl) (by kernel_rfl) rfl (by decide) (by decide) (by kernel_rfl) ?_)
      go_loopw [6] (fun i wq => ∃ k : Nat, k ≤ 191 ∧ i = .int .i64 k ∧ Two wq wr.heap.size allL ∧ Below w.heap.size w wq) (fun i _ => 191 - (intOf i).toNat)
      case atStart => exact ⟨0, by omega, rfl, two_new wr allL, (hb.alloc hwz _).alloc (by simp; omega) _⟩
      case round =>
        obtain ⟨m, hm, rfl, ht2, hb2⟩ := hrel
        by_cases hlt2 : m < 191
        · obtain ⟨h1, h2⟩ := ht2.cells (k := m) hlt2
          go_wp2
          go_quiet (fail)
          go_wp2
          exact ⟨⟨m + 1, by omega, by go_num, ht2, below_drewN hb2 _⟩, by simp [intOf]; omega⟩
        · clear ht2
          go_wp2
          go_ret
          exact ⟨rfl, hb2⟩

end Go.Proofs.Ytadmccbminiadaa
