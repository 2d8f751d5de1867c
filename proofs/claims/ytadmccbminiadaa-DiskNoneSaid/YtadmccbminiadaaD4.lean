/- Contracts of the functions of disk and of the law's own, part 4. No condition beyond each theorem's own. -/
import Derived.Test.YtadmccbminiadaaD3
import Derived.Deep.LoopGhost
import Derived.Deep.RegionHeld3
namespace Go.Proofs.Ytadmccbminiadaa
open Go.RowKit

theorem write_nil (i : Int) (A : Option Addr) (n c : Nat) (w : World) : Calls Try.prog 11 #[.pointer none, .int .i64 i, .slice A n c] w fun e w' => e = .returned (.bool false) ∧ w = w' := by
  go_enter Try.func11, Try.ntmps11
  go_wp2_with (go_at_call 26; refine (dead_nil _).mono ?_; rintro e w' ⟨rfl, rfl⟩)
  go_ret
  exact ⟨rfl, rfl⟩
theorem write_out {w : World} {g gl : Nat} {s : DS} (h : PD w g gl s) (i : Int) (A : Option Addr) (n c : Nat) (hb : s.dead = true ∨ i < 0 ∨ (s.n : Int) ≤ i ∨ n ≠ 256) :
    Calls Try.prog 11 #[.pointer (some ⟨g, 0, none⟩), .int .i64 i, .slice A n c] w fun e w' => e = .returned (.bool false) ∧ w = w' := by
  obtain ⟨h0, h1, h2, h3, h4, hf⟩ := h.1.facts
  cases hd : s.dead
  · rw [hd] at hb
    by_cases h1 : i < 0
    · go_enter Try.func11, Try.ntmps11
      go_wp2_with (go_at_call 26; refine (dead_any h).mono ?_; rw [hd]; rintro e w' ⟨rfl, rfl⟩)
      go_ret
      exact ⟨rfl, rfl⟩
    · by_cases h2 : (s.n : Int) ≤ i
      · go_enter Try.func11, Try.ntmps11
        go_wp2_with (go_at_call 26; refine (dead_any h).mono ?_; rw [hd]; rintro e w' ⟨rfl, rfl⟩)
        go_ret
        exact ⟨rfl, rfl⟩
      · have h3 : ((n : Int) != 256) = true := by
          simp at hb ⊢; omega
        go_enter Try.func11, Try.ntmps11
        go_wp2_with (go_at_call 26; refine (dead_any h).mono ?_; rw [hd]; rintro e w' ⟨rfl, rfl⟩)
        go_ret
        exact ⟨rfl, rfl⟩
  · clear hb
    go_enter Try.func11, Try.ntmps11
    go_wp2_with (go_at_call 26; refine (dead_any h).mono ?_; rw [hd]; rintro e w' ⟨rfl, rfl⟩)
    go_ret
    exact ⟨rfl, rfl⟩

def DS.fuse (s : DS) (n : Int) : DS := if s.dead then s else { s with fused := true, left := n, dead := decide (n < 1) }
theorem fuse_nil (n : Int) (w : World) : Calls Try.prog 15 #[.pointer none, .int .i64 n] w fun e w' => e = .returned (.tuple #[]) ∧ w = w' := by
  go_enter Try.func15, Try.ntmps15
  go_wp2_with (go_at_call 26; refine (dead_nil _).mono ?_; rintro e w' ⟨rfl, rfl⟩)
  refine bodyPost_ret (results_none rfl _ _ _) rfl ?_
  exact ⟨rfl, rfl⟩
theorem fuse_any {w : World} {g gl : Nat} {s : DS} (h : PD w g gl s) (n : Int) :
    Calls Try.prog 15 #[.pointer (some ⟨g, 0, none⟩), .int .i64 n] w (Quiet (Hd g) w (.tuple #[]) fun w' => PD w' g gl (s.fuse n)) := by
  obtain ⟨h0, h1, h2, h3, h4, hf⟩ := h.1.facts
  have H := Lib.hid h
  cases hd : s.dead
  · have hfin : s.fuse n = { s with fused := true, left := n, dead := decide (n < 1) } := by simp [DS.fuse, hd]
    have Hfin := Lib.hid hfin
    have HD0 := Lib.hid hd
    rw [hd] at h3
    clear h hfin hd
    go_enter Try.func15, Try.ntmps15
    go_wp2_with (go_at_call 26; refine (dead_any H.out).mono ?_; rw [HD0.out]; rintro e w' ⟨rfl, rfl⟩)
    go_end0
    have hF : ∀ a b c, Fr (Hd g) w (((w.setCell ⟨g, 1, none⟩ a).setCell ⟨g, 2, none⟩ b).setCell ⟨g, 3, none⟩ c) := fun _ _ _ =>
      (((Fr.refl _ w).setIn (head_in H.out.1) _).setIn (head_in H.out.1) _).setIn (head_in H.out.1) _
    refine ⟨rfl, hF _ _ _, ?_⟩
    rw [Hfin.out]
    exact H.out.put (hF _ _ _) (Blk.set_ (Blk.set_ (Blk.set_ H.out.1 1 _) 2 _) 3 _) rfl rfl rfl rfl
  · have hfin : s.fuse n = s := by simp [DS.fuse, hd]
    go_enter Try.func15, Try.ntmps15
    go_wp2_with (go_at_call 26; refine (dead_any h).mono ?_; rw [hd]; rintro e w' ⟨rfl, rfl⟩)
    refine bodyPost_ret (results_none rfl _ _ _) rfl ?_
    exact ⟨rfl, Fr.refl _ _, by rw [hfin]; exact h⟩


theorem cell_off1 {w : World} {g j k : Nat} {u v : Value} (hne : j ≠ k) (h : w.cell? ⟨g, j, none⟩ = some v) : (w.setCell ⟨g, k, none⟩ u).cell? ⟨g, j, none⟩ = some v := by
  rw [World.cell?_setCell_other _ _ _ _ (fun e => hne (by injection e with _ e; exact e.symm))]; exact h
theorem cell_off2 {w : World} {g j k k' : Nat} {u u' v : Value} (hne : j ≠ k) (hne' : j ≠ k') (h : w.cell? ⟨g, j, none⟩ = some v) : ((w.setCell ⟨g, k, none⟩ u).setCell ⟨g, k', none⟩ u').cell? ⟨g, j, none⟩ = some v :=
  cell_off1 hne' (cell_off1 hne h)

def DS.sync (s : DS) : DS := ({ s with safe := s.now, wet := fun _ => false }).done
/-- A sync that has come as far as sector k. -/
def DS.synced (s : DS) (k : Nat) : DS := { s with safe := fun j => if j < k then s.now j else s.safe j, wet := fun j => if j < k then false else s.wet j }

theorem sync_step {wr : World} {g gl k : Nat} {s : DS} {nv sv : Nat → SH} (hh : Head wr g gl s.n s.fused s.left s.dead s.count) (hk : k < s.n) (hS : Secs wr gl s.n nv sv (s.synced k).wet)
    (hdd : ∀ i, i < s.n → DataH wr (nv i) (s.now i) ∧ DataH wr (sv i) ((s.synced k).safe i)) (hne : gl ≠ g) :
    PD ((wr.setCell ⟨gl, k * 3 + 1, none⟩ (.slice (nv k).a (nv k).n (nv k).c)).setCell ⟨gl, k * 3 + 2, none⟩ (.bool false)) g gl (s.synced (k + 1)) ∧
    Fr (Dk g gl) wr ((wr.setCell ⟨gl, k * 3 + 1, none⟩ (.slice (nv k).a (nv k).n (nv k).c)).setCell ⟨gl, k * 3 + 2, none⟩ (.bool false)) := by
  have hF : Fr (Dk g gl) wr ((wr.setCell ⟨gl, k * 3 + 1, none⟩ (.slice (nv k).a (nv k).n (nv k).c)).setCell ⟨gl, k * 3 + 2, none⟩ (.bool false)) :=
    ((Fr.refl _ wr).setIn (secs_in hS) _).setIn (secs_in hS) _
  have hw : upd (s.synced k).wet k false = (s.synced (k + 1)).wet := by
    funext j
    simp only [upd, DS.synced]
    by_cases e : j = k
    · subst e; simp
    · by_cases e2 : j < k
      · rw [if_neg e, if_pos e2, if_pos (by omega)]
      · rw [if_neg e, if_neg e2, if_neg (by omega)]
  refine ⟨⟨Blk.far (Blk.far hh hne.symm _) hne.symm _, nv, _, hw ▸ (hS.set1 hk _ _ _).set2 hk _, fun j hj => ?_⟩, hF⟩
  obtain ⟨d1, d2⟩ := hdd j hj
  refine ⟨d1.fr hF (fun _ _ _ => dk_not (by decide) (by decide)), ?_⟩
  by_cases e : j = k
  · subst e
    have e2 : (s.synced (j + 1)).safe j = s.now j := by simp [DS.synced]
    rw [e2]
    simp only [upd, if_pos]
    exact d1.fr hF (fun _ _ _ => dk_not (by decide) (by decide))
  · have e2 : (s.synced (k + 1)).safe j = (s.synced k).safe j := by
      simp only [DS.synced]
      by_cases e3 : j < k
      · rw [if_pos e3, if_pos (by omega)]
      · rw [if_neg e3, if_neg (by omega)]
    rw [e2]
    simp only [upd, if_neg e]
    exact d2.fr hF (fun _ _ _ => dk_not (by decide) (by decide))

theorem synced_all {w : World} {g gl : Nat} {s : DS} (h : PD w g gl (s.synced s.n)) : PD w g gl { s with safe := s.now, wet := fun _ => false } := by
  obtain ⟨hh, nv, sv, ⟨cs, h1, h2, h3⟩, hd⟩ := h
  refine ⟨hh, nv, sv, ⟨cs, h1, h2, fun i hi => ?_⟩, fun i hi => ?_⟩
  · obtain ⟨a, b, c⟩ := h3 i hi
    exact ⟨a, b, by rw [c]; simp only [DS.synced]; rw [if_pos hi]⟩
  · obtain ⟨a, b⟩ := hd i hi
    exact ⟨a, by simp only [DS.synced] at b; rw [if_pos hi] at b; exact b⟩

set_option maxHeartbeats 1000000 in
theorem sync_any {w : World} {g gl : Nat} {s : DS} (h : PD w g gl s) (hd : s.dead = false)
    (hc : 0 ≤ s.count ∧ s.count < 1000000) (hl : s.fused = true → 0 < s.left ∧ s.left ≤ 9223372036854775807) (hn : s.n < 1000000) :
    Calls Try.prog 13 #[.pointer (some ⟨g, 0, none⟩)] w (Quiet (Dk g gl) w (.bool true) fun w' => PD w' g gl s.sync) := by
  obtain ⟨h0, h1, h2, h3, h4, hf⟩ := h.1.facts
  have H := Lib.hid h
  have HD0 := Lib.hid hd
  clear h hd
  go_enter Try.func13, Try.ntmps13
  go_wp2_with (go_at_call 26; refine (dead_any H.out).mono ?_; rw [HD0.out]; rintro e w' ⟨rfl, rfl⟩)
  clear h0 h1 h2 h3 h4 hf
  go_loopw [3, 11] (fun _ i wr => ∃ k : Nat, k ≤ s.n ∧ i = .int .i64 k ∧ PD wr g gl (s.synced k) ∧ Fr (Dk g gl) w wr) (fun _ i _ => s.n - (intOf i).toNat)
  case atStart => exact ⟨0, by omega, rfl, by simpa [DS.synced] using H.out, Fr.refl _ _⟩
  case round =>
    obtain ⟨k, hk, rfl, hp, hfr⟩ := hrel
    obtain ⟨h0, h1, h2, h3, h4, hf⟩ := hp.1.facts
    have HP := Lib.hid hp
    by_cases hlt : k < s.n
    · obtain ⟨nv, sv, hS, hdd⟩ := hp.2
      obtain ⟨cs, hcs, hsz, hcc⟩ := hS
      obtain ⟨c0, c1, c2⟩ := hcc k hlt
      rw [← hcs.cell] at c0 c1 c2
      have hfl := hcs.frozen
      have hne : gl ≠ g := Blk.ne_ hcs hp.1 (by decide)
      have HS : Hid (Secs wr gl s.n nv sv (s.synced k).wet) := Lib.hid ⟨cs, hcs, hsz, hcc⟩
      have Hdd := Lib.hid hdd
      have Hfr := Lib.hid hfr
      clear hp hfr hcs hsz hcc hdd
      go_wp2
      go_region_held3 (fun w' => w'.cell? ⟨g, 0, none⟩ = some (.slice (some ⟨gl, 0, none⟩) s.n s.n) ∧ w'.cell? ⟨gl, k * 3, none⟩ = some (.slice (nv k).a (nv k).n (nv k).c))
        (first | exact ⟨h0, c0⟩ | exact ⟨cell_far1 hne h0, cell_off1 (by omega) c0⟩ | exact ⟨cell_far2 hne h0, cell_off2 (by omega) (by omega) c0⟩)
        (first | fail)
      obtain ⟨hP2, hF2⟩ := sync_step (s := s) HP.out.1 hlt HS.out Hdd.out hne
      clear h0 h1 h2 h3 h4 hf c0 c1 c2 hfl
      go_wp2
      exact ⟨⟨k + 1, by omega, by go_num, hP2, Hfr.out.trans hF2.drew⟩, by simp [intOf]; omega⟩
    · have hkn : k = s.n := by omega
      subst hkn
      have hP := synced_all hp
      have Hfr := Lib.hid hfr
      clear hp hfr h0 h1 h2 h3 h4 hf hlt hk
      go_wp2_with (go_at_call 31; refine (done_any hP hc hl).mono ?_; rintro e w2 ⟨rfl, hF2, hP2⟩)
      go_ret
      exact ⟨rfl, Hfr.out.trans (hF2.mono fun _ _ h => .inl h), hP2⟩
end Go.Proofs.Ytadmccbminiadaa
