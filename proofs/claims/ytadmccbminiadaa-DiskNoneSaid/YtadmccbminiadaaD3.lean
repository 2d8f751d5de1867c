/- Contracts of the functions of disk and of the law's own, part 3. No condition beyond each theorem's own. -/
import Derived.Test.YtadmccbminiadaaD2
import Derived.Deep.RegionHeld3
namespace Go.Proofs.Ytadmccbminiadaa
open Go.RowKit

def DS.write (s : DS) (i : Nat) (l : List UInt8) : DS := ({ s with now := upd s.now i l, wet := upd s.wet i true }).done

theorem below_cells {W w1 : World} (hb : Below W.heap.size W w1) : (∀ b o, b < W.heap.size → w1.cell? ⟨b, o, none⟩ = W.cell? ⟨b, o, none⟩) ∧ (∀ b o, b < W.heap.size → w1.frozen? ⟨b, o, none⟩ = W.frozen? ⟨b, o, none⟩) :=
  ⟨fun b o h => hb.cell (p := ⟨b, o, none⟩) h, fun b o h => hb.frozen (p := ⟨b, o, none⟩) h⟩

section
variable {w : World} {gl n i : Nat} {nv sv : Nat → SH} {wet : Nat → Bool}
theorem Secs.set0 (h : Secs w gl n nv sv wet) (hi : i < n) (a : Option Addr) (m c : Nat) : Secs (w.setCell ⟨gl, i * 3, none⟩ (.slice a m c)) gl n (upd nv i ⟨a, m, c⟩) sv wet := by
  obtain ⟨cs, h1, h2, h3⟩ := h
  refine ⟨_, h1.set_ _ _, by simpa using h2, fun j hj => ?_⟩
  obtain ⟨x0, x1, x2⟩ := h3 j hj
  refine ⟨?_, ?_, ?_⟩
  · by_cases e : j = i
    · subst e; rw [Array.getElem?_setIfInBounds_self_of_lt (by omega)]; simp [upd]
    · rw [Array.getElem?_setIfInBounds_ne (by omega)]; simp [upd, e]; exact x0
  · rw [Array.getElem?_setIfInBounds_ne (by omega)]; exact x1
  · rw [Array.getElem?_setIfInBounds_ne (by omega)]; exact x2
theorem Secs.set1 (h : Secs w gl n nv sv wet) (hi : i < n) (a : Option Addr) (m c : Nat) : Secs (w.setCell ⟨gl, i * 3 + 1, none⟩ (.slice a m c)) gl n nv (upd sv i ⟨a, m, c⟩) wet := by
  obtain ⟨cs, h1, h2, h3⟩ := h
  refine ⟨_, h1.set_ _ _, by simpa using h2, fun j hj => ?_⟩
  obtain ⟨x0, x1, x2⟩ := h3 j hj
  refine ⟨?_, ?_, ?_⟩
  · rw [Array.getElem?_setIfInBounds_ne (by omega)]; exact x0
  · by_cases e : j = i
    · subst e; rw [Array.getElem?_setIfInBounds_self_of_lt (by omega)]; simp [upd]
    · rw [Array.getElem?_setIfInBounds_ne (by omega)]; simp [upd, e]; exact x1
  · rw [Array.getElem?_setIfInBounds_ne (by omega)]; exact x2
theorem Secs.set2 (h : Secs w gl n nv sv wet) (hi : i < n) (b : Bool) : Secs (w.setCell ⟨gl, i * 3 + 2, none⟩ (.bool b)) gl n nv sv (upd wet i b) := by
  obtain ⟨cs, h1, h2, h3⟩ := h
  refine ⟨_, h1.set_ _ _, by simpa using h2, fun j hj => ?_⟩
  obtain ⟨x0, x1, x2⟩ := h3 j hj
  refine ⟨?_, ?_, ?_⟩
  · rw [Array.getElem?_setIfInBounds_ne (by omega)]; exact x0
  · rw [Array.getElem?_setIfInBounds_ne (by omega)]; exact x1
  · by_cases e : j = i
    · subst e; rw [Array.getElem?_setIfInBounds_self_of_lt (by omega)]; simp [upd]
    · rw [Array.getElem?_setIfInBounds_ne (by omega)]; simp [upd, e]; exact x2
theorem secs_in {g : Nat} (h : Secs w gl n nv sv wet) {j : Nat} : ∀ o, w.heap[(⟨gl, j, none⟩ : Addr).block]? = some o → Dk g gl (⟨gl, j, none⟩ : Addr).block o := by
  obtain ⟨cs, h1, _⟩ := h
  intro o ho
  rw [show w.heap[(⟨gl, j, none⟩ : Addr).block]? = _ from h1] at ho
  cases ho
  exact .inr ⟨rfl, _, _, _, rfl, by simp⟩
end
theorem cell_far1 {w : World} {g gl j k : Nat} {u v : Value} (hne : gl ≠ g) (h : w.cell? ⟨g, j, none⟩ = some v) : (w.setCell ⟨gl, k, none⟩ u).cell? ⟨g, j, none⟩ = some v := by
  rw [World.cell?_setCell_other _ _ _ _ (fun e => hne (by injection e))]; exact h
theorem cell_far2 {w : World} {g gl j k k' : Nat} {u u' v : Value} (hne : gl ≠ g) (h : w.cell? ⟨g, j, none⟩ = some v) : ((w.setCell ⟨gl, k, none⟩ u).setCell ⟨gl, k', none⟩ u').cell? ⟨g, j, none⟩ = some v :=
  cell_far1 hne (cell_far1 hne h)

set_option maxHeartbeats 1000000 in
theorem write_in {w : World} {g gl : Nat} {s : DS} (h : PD w g gl s) (i : Nat) (hi : i < s.n) (hd : s.dead = false) (a : Addr) (c : Nat) (l : List UInt8) (hB : Bytes w (some a) 256 l)
    (hc : 0 ≤ s.count ∧ s.count < 1000000) (hl : s.fused = true → 0 < s.left ∧ s.left ≤ 9223372036854775807) :
    Calls Try.prog 11 #[.pointer (some ⟨g, 0, none⟩), .int .i64 i, .slice (some a) 256 c] w (Quiet (Dk g gl) w (.bool true) fun w' => PD w' g gl (s.write i l)) := by
  obtain ⟨h0, h1, h2, h3, h4, hf⟩ := h.1.facts
  have H := Lib.hid h
  obtain ⟨nv, sv, ⟨cs, hcs, hsz, hcc⟩, hdd⟩ := h.2
  obtain ⟨c0, c1, c2⟩ := hcc i hi
  rw [← hcs.cell] at c0 c1 c2
  have hlg : g < w.heap.size := Blk.lt h.1
  have hll : gl < w.heap.size := hcs.lt
  have hfl := hcs.frozen
  have hne : gl ≠ g := Blk.ne_ hcs h.1 (by decide)
  have Hcc := Lib.hid hcc
  have Hdd := Lib.hid hdd
  have Hsz := Lib.hid hsz
  have Hcs := Lib.hid hcs
  have hlt : (i : Int) < s.n := by omega
  have hp : ¬ (i : Int) < 0 := by omega
  clear h hcc hdd hsz hcs
  go_enter Try.func11, Try.ntmps11
  go_wp2_with (go_at_call 26; refine (dead_any H.out).mono ?_; rw [hd]; rintro e w' ⟨rfl, rfl⟩)
  go_region_held3 (fun w' => w'.cell? ⟨g, 0, none⟩ = some (.slice (some ⟨gl, 0, none⟩) s.n s.n))
    (first | exact h0 | exact hk1 | exact cell_far1 hne hk1 | exact cell_far2 hne hk1)
    (first | (go_at_call 30; refine (clone_some a 256 c l w.drew hB (by omega)).mono ?_; rintro e w1 ⟨a', c', rfl, hown, hb⟩; have hb1 : Below w.heap.size w w1 := ⟨hb.os, hb.tape, hb.output, hb.size, hb.block⟩; have hk1 := below_cell hb1 h0; have hk2 := below_cell hb1 c0; have hk3 := below_cell hb1 c2; have hk4 := (Hcs.out.below hb1 hll).frozen; clear hfl hf))
  have hS : Secs w1 gl s.n nv sv s.wet := Secs.fr (S := No) ⟨cs, Hcs.out, Hsz.out, Hcc.out⟩ (Fr.of_below hb1) (fun _ _ => id)
  have hF : Fr (Dk g gl) w ((w1.setCell ⟨gl, i * 3, none⟩ (.slice (some a') 256 c')).setCell ⟨gl, i * 3 + 2, none⟩ (.bool true)) :=
    ((Fr.of_below hb1).setIn (secs_in ⟨cs, Hcs.out, Hsz.out, Hcc.out⟩) _).setIn (secs_in ⟨cs, Hcs.out, Hsz.out, Hcc.out⟩) _
  have hPD : PD ((w1.setCell ⟨gl, i * 3, none⟩ (.slice (some a') 256 c')).setCell ⟨gl, i * 3 + 2, none⟩ (.bool true)) g gl { s with now := upd s.now i l, wet := upd s.wet i true } := by
    refine ⟨Blk.far (Blk.far (Blk.below H.out.1 hb1 hlg) hne.symm _) hne.symm _, _, _, (hS.set0 hi _ _ _).set2 hi _, fun j hj => ?_⟩
    obtain ⟨d1, d2⟩ := Hdd.out j hj
    refine ⟨?_, d2.fr hF (fun _ _ _ => dk_not (by decide) (by decide))⟩
    by_cases e : j = i
    · subst e
      simp only [upd, if_pos]
      have hB1 := Bytes.of_own hown
      have hT1 := Ty5.of_own hown
      refine ⟨.inr ⟨a', rfl, rfl, ?_, ?_⟩, fun e => by cases e⟩
      · exact bytes_fr hB1 hT1 (S := Dk g gl) (((Fr.refl _ w1).setIn (secs_in hS) _).setIn (secs_in hS) _) (fun _ _ _ => dk_not (by decide) (by decide))
      · exact hT1.fr (S := Dk g gl) (((Fr.refl _ w1).setIn (secs_in hS) _).setIn (secs_in hS) _) (fun _ _ _ => dk_not (by decide) (by decide))
    · simp only [upd, if_neg e]
      exact d1.fr hF (fun _ _ _ => dk_not (by decide) (by decide))
  have HF := Lib.hid hF
  clear hF hS hown hb hk1 hk2 hk3 c0 c1 c2 h0 h1 h2 h3 h4 hb1
  go_wp2_with (go_at_call 31; refine (done_any hPD hc hl).mono ?_; rintro e w2 ⟨rfl, hF2, hP2⟩)
  go_ret
  exact ⟨rfl, HF.out.trans (hF2.mono fun _ _ h => .inl h), hP2⟩
end Go.Proofs.Ytadmccbminiadaa
