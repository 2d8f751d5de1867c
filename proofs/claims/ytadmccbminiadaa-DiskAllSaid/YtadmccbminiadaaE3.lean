/- Contracts of the law's own functions, part 14: what both devices do, whatever is asked. No condition beyond each theorem's own. -/
import Derived.Test.YtadmccbminiadaaE1
import Derived.Test.YtadmccbminiadaaE2
namespace Go.Proofs.Ytadmccbminiadaa
open Go.RowKit

def fullL (l : List UInt8) (N : Int) : List UInt8 := if N < 0 ∨ 20000 < N then [] else over l N.toNat
theorem full_all (A : Option Addr) (n c : Nat) (l : List UInt8) (N : Int) (w : World) (h : Bytes w A n l) (hn : n ≤ 9223372036854775807) :
    Calls Try.prog 10 #[.slice A n c, .int .i64 N] w (Row5 w (fullL l N)) := by
  unfold fullL
  split
  · rename_i hN
    exact full_out A n c N w hN
  · rename_i hN
    obtain ⟨m, rfl⟩ : ∃ m : Nat, N = m := ⟨N.toNat, by omega⟩
    rw [Int.toNat_natCast]
    exact full_in A n c l m w h hn (by omega)

/-- A device as the law keeps it. -/
structure Kept (N k : Nat) (s : DS) : Prop where
  n : s.n = N
  c0 : 0 ≤ s.count
  c1 : s.count ≤ k
  left : s.fused = true → s.left ≤ 9223372036854775807
  ok : s.ok
theorem Kept.lim {N k : Nat} {s : DS} (h : Kept N k s) (hd : s.dead = false) : s.fused = true → 0 < s.left ∧ s.left ≤ 9223372036854775807 := fun hf => ⟨by
  have := h.ok
  unfold DS.ok at this
  rw [hd, hf] at this
  simp at this
  omega, h.left hf⟩
theorem Kept.fuse_le {N k : Nat} {s : DS} (h : Kept N k s) : s.fuseOf ≤ 9223372036854775807 := by
  unfold DS.fuseOf
  split
  · rename_i hf
    have := h.left hf
    split <;> omega
  · omega
theorem Kept.more {N k : Nat} {s : DS} (h : Kept N k s) : Kept N (k + 1) s := ⟨h.n, h.c0, by have := h.c1; omega, h.left, h.ok⟩
theorem Kept.done {N k : Nat} {s : DS} (h : Kept N k s) : Kept N (k + 1) s.done := by
  refine ⟨h.n, ?_, ?_, fun hf => ?_, done_ok s h.ok⟩
  · have := h.c0; simp only [DS.done]; omega
  · have := h.c1; simp only [DS.done]; omega
  · have hf' : s.fused = true := hf
    have := h.left hf'
    simp only [DS.done, hf', if_true]
    omega

def DS.stuck (s : DS) (i : Int) (l : List UInt8) : Bool := s.dead || decide (i < 0) || decide ((s.n : Int) ≤ i) || decide (l.length ≠ 256)
def DS.writeTo (s : DS) (i : Int) (l : List UInt8) : DS := if s.stuck i l then s else s.write i.toNat l
theorem stuck_or {s : DS} {i : Int} {l : List UInt8} : s.stuck i l = true ↔ s.dead = true ∨ i < 0 ∨ (s.n : Int) ≤ i ∨ l.length ≠ 256 := by
  simp [DS.stuck, or_assoc]
theorem Kept.write {N k : Nat} {s : DS} (h : Kept N k s) (i : Int) (l : List UInt8) : Kept N (k + 1) (s.writeTo i l) := by
  unfold DS.writeTo
  split
  · exact h.more
  · exact Kept.done (s := { s with now := upd s.now i.toNat l, wet := upd s.wet i.toNat true }) ⟨h.n, h.c0, h.c1, h.left, h.ok⟩

theorem write_all {w : World} {g gl N k : Nat} {s : DS} (h : PD w g gl s) (hs : Kept N k s) (hk : k < 1000) (i : Int) (a : Addr) (n c : Nat) (l : List UInt8) (hB : Bytes w (some a) n l) :
    Calls Try.prog 11 #[.pointer (some ⟨g, 0, none⟩), .int .i64 i, .slice (some a) n c] w (Quiet (Dk g gl) w (.bool (!s.stuck i l)) fun w' => PD w' g gl (s.writeTo i l)) := by
  unfold DS.writeTo
  have hl := hB.1
  cases hst : s.stuck i l
  · have hst' : ¬ (s.dead = true ∨ i < 0 ∨ (s.n : Int) ≤ i ∨ l.length ≠ 256) := fun x => by rw [stuck_or.2 x] at hst; cases hst
    have hd : s.dead = false := by cases h : s.dead <;> simp [h] at hst' ⊢
    have hx1 : ¬ i < 0 := fun x => hst' (.inr (.inl x))
    have hx2 : ¬ (s.n : Int) ≤ i := fun x => hst' (.inr (.inr (.inl x)))
    have hx3 : ¬ l.length ≠ 256 := fun x => hst' (.inr (.inr (.inr x)))
    clear hst'
    obtain ⟨i, rfl⟩ : ∃ m : Nat, i = m := ⟨i.toNat, by omega⟩
    obtain rfl : n = 256 := by omega
    rw [Int.toNat_natCast]
    exact write_in h i (by omega) hd a c l hB ⟨hs.c0, by have := hs.c1; omega⟩ (hs.lim hd)
  · refine (write_out h i (some a) n c (by rcases stuck_or.1 hst with x | x | x | x; exact .inl x; exact .inr (.inl x); exact .inr (.inr (.inl x)); exact .inr (.inr (.inr (by omega))))).mono ?_
    rintro e w' ⟨rfl, rfl⟩
    exact ⟨rfl, Fr.refl _ _, h⟩
theorem rwrite_all {w : World} {h gs gn gw N k : Nat} {s : DS} (hr : RD w h gs gn gw s) (hs : Kept N k s) (hk : k < 1000) (i : Int) (a : Addr) (n c : Nat) (l : List UInt8) (hB : Bytes w (some a) n l) :
    Calls Try.prog 12 #[.pointer (some ⟨h, 0, none⟩), .int .i64 i, .slice (some a) n c] w (Quiet (Rk h gs gn gw) w (.bool (!s.stuck i l)) fun w' => RD w' h gs gn gw (s.writeTo i l)) := by
  unfold DS.writeTo
  have hl := hB.1
  cases hst : s.stuck i l
  · have hst' : ¬ (s.dead = true ∨ i < 0 ∨ (s.n : Int) ≤ i ∨ l.length ≠ 256) := fun x => by rw [stuck_or.2 x] at hst; cases hst
    have hd : s.dead = false := by cases h : s.dead <;> simp [h] at hst' ⊢
    have hx1 : ¬ i < 0 := fun x => hst' (.inr (.inl x))
    have hx2 : ¬ (s.n : Int) ≤ i := fun x => hst' (.inr (.inr (.inl x)))
    have hx3 : ¬ l.length ≠ 256 := fun x => hst' (.inr (.inr (.inr x)))
    clear hst'
    obtain ⟨i, rfl⟩ : ∃ m : Nat, i = m := ⟨i.toNat, by omega⟩
    obtain rfl : n = 256 := by omega
    rw [Int.toNat_natCast]
    exact rwrite_in hr i (by omega) hd a c l hB ⟨hs.c0, by have := hs.c1; omega⟩ hs.fuse_le
  · refine (rwrite_out hr i (some a) n c (by rcases stuck_or.1 hst with x | x | x | x; exact .inl x; exact .inr (.inl x); exact .inr (.inr (.inl x)); exact .inr (.inr (.inr (by omega))))).mono ?_
    rintro e w' ⟨rfl, rfl⟩
    exact ⟨rfl, Fr.refl _ _, hr⟩

theorem sync_dead {w : World} {g gl : Nat} {s : DS} (h : PD w g gl s) (hd : s.dead = true) : Calls Try.prog 13 #[.pointer (some ⟨g, 0, none⟩)] w fun e w' => e = .returned (.bool false) ∧ w = w' := by
  go_enter Try.func13, Try.ntmps13
  go_wp2_with (go_at_call 26; refine (dead_any h).mono ?_; rw [hd]; rintro e w' ⟨rfl, rfl⟩)
  go_ret
  exact ⟨rfl, rfl⟩
theorem rsync_dead {w : World} {h gs gn gw : Nat} {s : DS} (hr : RD w h gs gn gw s) (hd : s.dead = true) : Calls Try.prog 14 #[.pointer (some ⟨h, 0, none⟩)] w fun e w' => e = .returned (.bool false) ∧ w = w' := by
  go_enter Try.func14, Try.ntmps14
  go_wp2_with (go_at_call 32; refine (rdead_any hr).mono ?_; rw [hd]; rintro e w' ⟨rfl, rfl⟩)
  go_ret
  exact ⟨rfl, rfl⟩
def DS.syncTo (s : DS) : DS := if s.dead then s else s.sync
theorem Kept.sync {N k : Nat} {s : DS} (h : Kept N k s) : Kept N (k + 1) s.syncTo := by
  unfold DS.syncTo
  split
  · exact h.more
  · exact Kept.done (s := { s with safe := s.now, wet := fun _ => false }) ⟨h.n, h.c0, h.c1, h.left, h.ok⟩
theorem sync_all {w : World} {g gl N k : Nat} {s : DS} (h : PD w g gl s) (hs : Kept N k s) (hk : k < 1000) (hN : N < 1000) :
    Calls Try.prog 13 #[.pointer (some ⟨g, 0, none⟩)] w (Quiet (Dk g gl) w (.bool (!s.dead)) fun w' => PD w' g gl s.syncTo) := by
  unfold DS.syncTo
  cases hd : s.dead
  · exact sync_any h hd ⟨hs.c0, by have := hs.c1; omega⟩ (hs.lim hd) (by have := hs.n; omega)
  · refine (sync_dead h hd).mono ?_
    rintro e w' ⟨rfl, rfl⟩
    exact ⟨rfl, Fr.refl _ _, h⟩
theorem rsync_all {w : World} {h gs gn gw N k : Nat} {s : DS} (hr : RD w h gs gn gw s) (hs : Kept N k s) (hk : k < 1000) (hN : N < 1000) :
    Calls Try.prog 14 #[.pointer (some ⟨h, 0, none⟩)] w (Quiet (Rk h gs gn gw) w (.bool (!s.dead)) fun w' => RD w' h gs gn gw s.syncTo) := by
  unfold DS.syncTo
  cases hd : s.dead
  · exact rsync_any hr hd ⟨hs.c0, by have := hs.c1; omega⟩ hs.fuse_le (by have := hs.n; omega)
  · refine (rsync_dead hr hd).mono ?_
    rintro e w' ⟨rfl, rfl⟩
    exact ⟨rfl, Fr.refl _ _, hr⟩
theorem Kept.fuse {N k : Nat} {s : DS} (h : Kept N k s) (n : Int) (hn : n ≤ 9223372036854775807) : Kept N (k + 1) (s.fuse n) := by
  have hok := fuse_ok s n h.ok
  unfold DS.fuse at hok ⊢
  split at hok
  · rename_i hd
    rw [if_pos hd]
    exact h.more
  · rename_i hd
    rw [if_neg hd]
    exact ⟨h.n, h.c0, by have := h.c1; show s.count ≤ _; omega, fun _ => hn, hok⟩
theorem Kept.crash {N k : Nat} {s : DS} (h : Kept N k s) (κ : Nat → Bool) : Kept N (k + 1) (s.crash κ) :=
  ⟨h.n, by simp [DS.crash, DS.new], by simp [DS.crash, DS.new]; omega, by simp [DS.crash, DS.new], by simp [DS.crash, DS.new, DS.ok]⟩
theorem Kept.new (N : Nat) : Kept N 0 (DS.new N) := ⟨rfl, by simp [DS.new], by simp [DS.new], by simp [DS.new], by simp [DS.new, DS.ok]⟩
end Go.Proofs.Ytadmccbminiadaa
