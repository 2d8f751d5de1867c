/- Contracts of the functions of disk and of the law's own, part 9. No condition beyond each theorem's own. -/
import Derived.Test.YtadmccbminiadaaD8
namespace Go.Proofs.Ytadmccbminiadaa
open Go.RowKit

def chunk (l : List UInt8) (i : Nat) : List UInt8 := (l.drop (i * 256)).take 256
/-- A load that has come as far as sector k. -/
def DS.loadTo (l : List UInt8) (n k : Nat) : DS := { DS.new n with now := fun i => if i < k then chunk l i else zero256, safe := fun i => if i < k then chunk l i else zero256 }
def LoadOk (w : World) (n : Nat) (l : List UInt8) (e : Ending) (w' : World) : Prop :=
  ∃ g gl, e = .returned (.pointer (some ⟨g, 0, none⟩)) ∧ PD w' g gl (DS.loadTo l n n) ∧ Below w.heap.size w w'

theorem load_step {w : World} {g gl k n : Nat} {l : List UInt8} (h : PD w g gl (DS.loadTo l n k)) (hk : k < n) (hv : SH) (hd : DataH w hv (chunk l k)) :
    PD (W3 w gl k hv) g gl (DS.loadTo l n (k + 1)) := by
  have e : ∀ m, DS.loadTo l n m = DS.crashTo { DS.new n with safe := chunk l } (fun _ => false) m := fun m => by simp [DS.loadTo, DS.crashTo, DS.val, DS.new]
  rw [e] at h ⊢
  exact crash_step (κ := fun _ => false) h hk hv (by simpa [DS.val] using hd)

theorem chunk_bytes {w : World} {b o n k : Nat} {l : List UInt8} (h : Bytes w (some ⟨b, o, none⟩) n l) (hk : (k + 1) * 256 ≤ n) : Bytes w (some ⟨b, o + k * 256, none⟩) 256 (chunk l k) := by
  obtain ⟨hl, hc⟩ := h
  refine ⟨by simp [chunk]; omega, fun _ => ⟨b, _, rfl, fun j x hx => ?_⟩⟩
  obtain ⟨b', o', he, hr⟩ := hc (by omega)
  cases he
  rw [Nat.add_assoc]
  refine hr _ x ?_
  rw [← hx, chunk, List.getElem?_take]
  split
  · rw [List.getElem?_drop]
  · rename_i hj
    simp only [chunk, List.getElem?_take, if_neg hj] at hx
    cases hx

theorem slice_lh {w : World} {b o n c lo hi : Nat} {l h : Int} (hl : l = lo) (hh : h = hi) (h1 : lo ≤ hi) (h2 : hi ≤ c) (h3 : lo < c) :
    (Instr.slice 31 (.slice (some ⟨b, o, none⟩) n c) (some (.int .i64 l)) (some (.int .i64 h)) none).run Try.prog w = .ok (.slice (some ⟨b, o + lo, none⟩) (hi - lo) (c - lo)) w := by
  subst hl; subst hh
  rw [run_slice_lh w 31 _ n c Try.underlying31 .i64 .i64 lo hi (by omega) (by omega) (by omega)]
  obtain ⟨i0, hi0, hz0, hz1, hz2⟩ := info_parts info5
  have he : Try.prog.elem 31 = 5 := by kernel_rfl
  simp only [he, sizeOf, typeInfo, Sem.run_bind, run_program, Result.andThen_ok, hi0, Sem.run_pure, hz1, Int.toNat_natCast, sliced]
  rw [if_neg (by omega)]
  simp [addr_add]

set_option maxRecDepth 100000 in
set_option maxHeartbeats 2000000 in
theorem load_ok (A : Option Addr) (c : Nat) (l : List UInt8) (m : Nat) (w : World) (h1 : 1 ≤ m) (hm : m ≤ 65536) (h : Bytes w A (m * 256) l) (hc : m * 256 ≤ c) :
    Calls Try.prog 29 #[.slice A (m * 256 : Nat) c] w (LoadOk w m l) := by
  obtain ⟨b, o, rfl, -⟩ := h.at_ (k := 0) (by omega)
  obtain ⟨N, hN⟩ : ∃ N, N = m * 256 := ⟨_, rfl⟩
  rw [← hN] at h hc ⊢
  have hq : (N : Int) / 256 = m := by omega
  have hr : ((N : Int) % 256 != 0) = false := by simp; omega
  have HN := Lib.hid hN
  clear hN
  go_enter Try.func29, Try.ntmps29
  go_wp2_with (go_at_call 8; refine (new_ok m _ h1 hm).mono ?_; rintro e w1 ⟨g2, gl2, rfl, hg2, hgl2, hP2, hb⟩; obtain ⟨x0, -⟩ := hP2.1.facts)
  have hg0 : w.heap.size ≤ w1.heap.size := hb.size
  have hnn : (DS.new m).n = m := rfl
  rw [hnn] at x0
  clear hq hr hnn
  go_loopw [4, 5, 23] (fun _ _ i wr => ∃ k : Nat, k ≤ m ∧ i = .int .i64 k ∧ PD wr g2 gl2 (DS.loadTo l m k) ∧ Below w.heap.size w wr) (fun _ _ i _ => m - (intOf i).toNat)
  case atStart => exact ⟨0, by omega, rfl, by simpa [DS.loadTo, DS.new] using hP2, hb⟩
  case round =>
    obtain ⟨k, hk, rfl, hp, hbr⟩ := hrel
    by_cases hlt : k < m
    · obtain ⟨hv, hw, c0, c1, c2, -, -, hl1, hf⟩ := hp.sector (k := k) hlt
      obtain ⟨y0, -⟩ := hp.1.facts
      have e : (DS.loadTo l m k).n = m := rfl
      rw [e] at y0
      clear e
      have hB := chunk_bytes (h.below hbr) (k := k) (by have := HN.out; omega)
      have hb1 : (k + 1) * 256 ≤ N := by have := HN.out; omega
      have hsl : (Instr.slice 31 (.slice (some ⟨b, o, none⟩) N c) (some (.int .i64 ((k : Int) * 256))) (some (.int .i64 (((k : Int) + 1) * 256))) none).run Try.prog wr = .ok (.slice (some ⟨b, o + k * 256, none⟩) 256 (c - k * 256)) wr := by
        have := slice_lh (w := wr) (b := b) (o := o) (n := N) (c := c) (lo := k * 256) (hi := (k + 1) * 256) (l := (k : Int) * 256) (h := ((k : Int) + 1) * 256) (by omega) (by omega) (by omega) (by omega) (by omega)
        rwa [show (k + 1) * 256 - k * 256 = 256 by omega] at this
      have Hp := Lib.hid hp
      have Hbr := Lib.hid hbr
      clear hp hbr
      go_wp2_with fail
      refine (clone_some _ 256 _ _ _ hB (by omega)).mono ?_
      rintro e w2 ⟨a', c', rfl, hown, hb2⟩
      have hp2 := Hp.out.below hb2
      have hbw := Hbr.out.trans (hb2.mono Hbr.out.size)
      have hst := load_step hp2 hlt ⟨some a', 256, c'⟩ ⟨.inr ⟨a', rfl, rfl, Bytes.of_own hown, Ty5.of_own hown⟩, fun e => by cases e⟩
      obtain ⟨_, _, d0, d1, d2, -, -, _, df⟩ := hp2.sector (k := k) hlt
      obtain ⟨z0, -⟩ := hp2.1.facts
      have e : (DS.loadTo l m k).n = m := rfl
      rw [e] at z0
      have Hst := Lib.hid hst
      clear e c0 c1 c2 y0 hf hl1 hst hp2 hsl
      go_wp2
      exact ⟨⟨k + 1, by omega, by go_num, Hst.out, ((hbw.setCell (p := ⟨_, _, none⟩) hgl2 _).setCell (p := ⟨_, _, none⟩) hgl2 _).setCell (p := ⟨_, _, none⟩) hgl2 _⟩, by simp [intOf]; omega⟩
    · have hkn : k = m := by omega
      subst hkn
      go_wp2
      go_ret
      exact ⟨g2, gl2, rfl, hp, hbr⟩
end Go.Proofs.Ytadmccbminiadaa
