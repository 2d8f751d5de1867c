/- Contracts of the reference's device: sync, a new one, a crash, the image. No condition beyond each theorem's own. -/
import Derived.Test.YtadmccbminiadaaR2
namespace Go.Proofs.Ytadmccbminiadaa
open Go.RowKit

theorem rsync_step {w : World} {h gs gn gw k : Nat} {s : DS} {nv sv : Nat → SH} (hr : RD w h gs gn gw (s.synced k)) (hk : k < s.n) (e1 : Spine w gn s.n nv) (e2 : Spine w gs s.n sv)
    (e3 : ∀ i, i < s.n → Sect w (nv i) (s.now i) ∧ Sect w (sv i) ((s.synced k).safe i)) :
    RD ((w.setCell ⟨gs, k, none⟩ (.slice (nv k).a (nv k).n (nv k).c)).setCell ⟨gw, k, none⟩ (.bool false)) h gs gn gw (s.synced (k + 1)) ∧
    Fr (Rk h gs gn gw) w ((w.setCell ⟨gs, k, none⟩ (.slice (nv k).a (nv k).n (nv k).c)).setCell ⟨gw, k, none⟩ (.bool false)) := by
  obtain ⟨⟨xs, xn, y1, y2, hh⟩, ne, ok, _, hwt⟩ := hr
  have hF1 : Fr (On gs 31) w (w.setCell ⟨gs, k, none⟩ (.slice (nv k).a (nv k).n (nv k).c)) := (Fr.refl _ w).setIn (e2.in_ on_mk) _
  have hwt1 := hwt.fr hF1 (fun _ _ => on_not (by decide))
  have hF2 : Fr (On gw 4) (w.setCell ⟨gs, k, none⟩ (.slice (nv k).a (nv k).n (nv k).c)) ((w.setCell ⟨gs, k, none⟩ (.slice (nv k).a (nv k).n (nv k).c)).setCell ⟨gw, k, none⟩ (.bool false)) := (Fr.refl _ _).setIn (hwt1.in_ on_mk) _
  have hw : upd (s.synced k).wet k false = (s.synced (k + 1)).wet := by
    funext j
    simp only [upd, DS.synced]
    by_cases e : j = k
    · subst e; simp
    · by_cases e2 : j < k
      · rw [if_neg e, if_pos e2, if_pos (by omega)]
      · rw [if_neg e, if_neg e2, if_neg (by omega)]
  refine ⟨⟨⟨xs, xn, y1, y2, Blk.fr (Blk.fr hh hF1 (on_not (by decide))) hF2 (on_not (by decide))⟩, ne, ok, ⟨nv, _, (e1.fr hF1 (fun _ _ => on_ne ne.symm)).fr hF2 (fun _ _ => on_not (by decide)), (e2.set_ hk _ _ _).fr hF2 (fun _ _ => on_not (by decide)), fun j hj => ?_⟩, hw ▸ hwt1.set_ hk _⟩,
    (hF1.mono fun _ _ x => .inr (.inl x)).trans (hF2.mono fun _ _ x => .inr (.inr (.inr x)))⟩
  obtain ⟨d1, d2⟩ := e3 j hj
  have t1 : ∀ {hv : SH} {l : List UInt8}, Sect w hv l → Sect ((w.setCell ⟨gs, k, none⟩ (.slice (nv k).a (nv k).n (nv k).c)).setCell ⟨gw, k, none⟩ (.bool false)) hv l :=
    fun d => (d.fr hF1 (fun _ _ _ => on_not (by decide))).fr hF2 (fun _ _ _ => on_not (by decide))
  refine ⟨t1 d1, ?_⟩
  by_cases e : j = k
  · subst e
    have e2 : (s.synced (j + 1)).safe j = s.now j := by simp [DS.synced]
    rw [e2]
    simp only [upd, if_pos]
    exact t1 d1
  · have e2 : (s.synced (k + 1)).safe j = (s.synced k).safe j := by
      simp only [DS.synced]
      by_cases e3 : j < k
      · rw [if_pos e3, if_pos (by omega)]
      · rw [if_neg e3, if_neg (by omega)]
    rw [e2]
    simp only [upd, if_neg e]
    exact t1 d2

theorem rsynced_all {w : World} {h gs gn gw : Nat} {s : DS} (hr : RD w h gs gn gw (s.synced s.n)) : RD w h gs gn gw { s with safe := s.now, wet := fun _ => false } := by
  obtain ⟨hh, ne, ok, ⟨nv, sv, e1, e2, e3⟩, ⟨cs, h1, h2⟩⟩ := hr
  refine ⟨hh, ne, ok, ⟨nv, sv, e1, e2, fun i hi => ?_⟩, ⟨cs, h1, fun i hi => ?_⟩⟩
  · obtain ⟨a, b⟩ := e3 i hi
    exact ⟨a, by simp only [DS.synced] at b; rw [if_pos hi] at b; exact b⟩
  · rw [h2 i hi]; simp only [DS.synced]; rw [if_pos hi]

set_option maxRecDepth 100000 in
set_option maxHeartbeats 1000000 in
theorem rsync_any {w : World} {h gs gn gw : Nat} {s : DS} (hr : RD w h gs gn gw s) (hd : s.dead = false)
    (hc : 0 ≤ s.count ∧ s.count < 1000000) (hl : s.fuseOf ≤ 9223372036854775807) (hn : s.n < 1000000) :
    Calls Try.prog 14 #[.pointer (some ⟨h, 0, none⟩)] w (Quiet (Rk h gs gn gw) w (.bool true) fun w' => RD w' h gs gn gw s.sync) := by
  have HR := Lib.hid hr
  have Hd := Lib.hid hd
  clear hr hd
  go_enter Try.func14, Try.ntmps14
  go_wp2_with (go_at_call 32; refine (rdead_any HR.out).mono ?_; rw [Hd.out]; rintro e w' ⟨rfl, rfl⟩)
  go_loopw [3] (fun i wr => ∃ k : Nat, k ≤ s.n ∧ i = .int .i64 k ∧ RD wr h gs gn gw (s.synced k) ∧ Fr (Rk h gs gn gw) w wr) (fun i _ => s.n - (intOf i).toNat)
  case atStart => exact ⟨0, by omega, rfl, by simpa [DS.synced] using HR.out, Fr.refl _ _⟩
  case round =>
    obtain ⟨k, hk, rfl, hp, hfr⟩ := hrel
    obtain ⟨cs, cn, l1, l2, hh⟩ := hp.head
    obtain ⟨h0, h1, h2, h3, h4, hf⟩ := hh.facts
    have en : (s.synced k).n = s.n := rfl
    rw [en] at h0 h1 h2
    by_cases hlt : k < s.n
    · obtain ⟨nv, sv, e1, e2, e3⟩ := hp.data
      obtain ⟨c0, hln, fn⟩ := e1.cell hlt
      obtain ⟨x0, hls, fs⟩ := e2.cell hlt
      obtain ⟨v0, hlw, fw⟩ := hp.wets.cell hlt
      have hne : gs ≠ gn := hp.ne
      have hne1 : gs ≠ h := by obtain ⟨x, q1, _⟩ := e2; exact Blk.ne_ q1 hh (by decide)
      have hne2 : gs ≠ gw := by obtain ⟨x, q1, _⟩ := e2; obtain ⟨y, q2, _⟩ := hp.wets; exact Blk.ne_ q1 q2 (by decide)
      have hst := rsync_step hp hlt e1 e2 e3
      have Hst := Lib.hid hst
      have Hfr := Lib.hid hfr
      have hk1 := cell_far1 (k := k) (u := .slice (nv k).a (nv k).n (nv k).c) hne1 h0
      have hk2 := cell_far1 (k := k) (u := .slice (nv k).a (nv k).n (nv k).c) hne1 h1
      have hk3 := cell_far1 (k := k) (u := .slice (nv k).a (nv k).n (nv k).c) hne1 h2
      have hk4 := cell_far1 (k := k) (u := .slice (nv k).a (nv k).n (nv k).c) hne c0
      have hk5 := cell_far1 (k := k) (u := .slice (nv k).a (nv k).n (nv k).c) hne2 v0
      clear hp hh e1 e2 e3 hst hfr en
      go_wp2
      go_region_held3 (fun w' => w'.cell? ⟨h, 0, none⟩ = some (.slice (some ⟨gs, 0, none⟩) s.n cs) ∧ w'.cell? ⟨h, 1, none⟩ = some (.slice (some ⟨gn, 0, none⟩) s.n cn) ∧ w'.cell? ⟨gn, k, none⟩ = some (.slice (nv k).a (nv k).n (nv k).c))
        (first | exact ⟨h0, h1, c0⟩ | exact ⟨hk1, hk2, hk4⟩)
        (first | fail)
      clear h0 h1 h3 h4 c0 x0 hk1 hk2 hk4
      go_wp2
      exact ⟨⟨k + 1, by omega, by go_num, Hst.out.1.below (Below.refl _ _).drew, Hfr.out.trans Hst.out.2.drew⟩, by simp [intOf]; omega⟩
    · have hkn : k = s.n := by omega
      subst hkn
      have hP := rsynced_all hp
      have Hfr := Lib.hid hfr
      have HP := Lib.hid hP
      clear hp hfr hh hP
      go_wp2_with (go_at_call 33; refine (step_any HP.out Hd.out hc hl).mono ?_; rintro e w2 ⟨rfl, hF2, hP2⟩)
      go_ret
      exact ⟨rfl, Hfr.out.trans (hF2.mono fun _ _ x => .inl x), hP2⟩
end Go.Proofs.Ytadmccbminiadaa
