/- The law DiskAll: the walk. No condition beyond each theorem's own. -/
import Derived.Test.YtadmccbminiadaaE4
import Derived.Deep.RegionLaw
import Derived.Deep.DeepCutAuto
namespace Go.Proofs.Ytadmccbminiadaa
open Go.RowKit
set_option linter.unusedSimpArgs false

set_option maxRecDepth 100000 in
set_option maxHeartbeats 40000000 in
/-- The loop begins with two devices of N sectors. -/
theorem all_some {w : World} {N : Nat} (M : Int) (hM : (M = N) ∨ (40 < M ∧ M ≤ 65536 ∧ M % 41 = N)) (h1 : 1 ≤ N) (h2 : N ≤ 40) (A : Option Addr) (n c : Nat) (f : Nat → OpR) (ho : OpsIn w A n f) :
    Calls Try.prog 4 #[.int .i64 M, .slice A n c] w (AllOk w) := by
  go_enter Try.func4, Try.ntmps4
  go_upto_region 2 with (go_at_call 7; refine (begun_any _).mono ?_; rintro e w1 ⟨rfl, hb1⟩)
  go_cut [24] from 19 to 24 (fun v wx => ∃ b : Bool, v = .bool b ∧ (b = true → M.tmod 41 = N) ∧ (b = false → M = N) ∧ wx = w1)
  case first =>
    rcases hM with rfl | ⟨q1, q2, q3⟩
    · have q1 : ¬ (40 : Int) < N := by omega
      go_wp2
      go_meet
      exact ⟨false, rfl, (fun h => by cases h), fun _ => by first | trivial | rfl, rfl⟩
    · have q4 : M.tmod 41 = N := by rw [Int.tmod_eq_emod_of_nonneg (by omega)]; exact q3
      have Q4 := Lib.hid q4
      clear q4 q3
      go_wp2
      go_meet
      exact ⟨true, rfl, fun _ => Q4.out, (fun h => by cases h), rfl⟩
  case rest =>
    obtain ⟨b, rfl, e1, e2, rfl⟩ := hcut
    go_upto_if 24 with fail
    go_cut [0] from 25 to 26 (fun v wx => v = .int .i64 N ∧ wx = wc)
    case first =>
      cases b
      · have q := e2 rfl
        subst q
        go_wp2
        go_meet
        exact ⟨rfl, rfl⟩
      · have q := e1 rfl
        clear e1 e2
        go_wp2
        go_meet
        exact ⟨rfl, rfl⟩
    case rest =>
      obtain ⟨rfl, rfl⟩ := hcut
      clear e1 e2 hM
      go_wp2_with (first
        | (go_at_call 8; refine (new_ok N _ h1 (by omega)).mono ?_; rintro e w2 ⟨g, gl, rfl, hg, hgl, hP, hb2⟩)
        | (go_at_call 9; refine (rnew_ok N _ h1 (by omega)).mono ?_; rintro e w3 ⟨h, gs, gn, gw, rfl, hh, hgs, hgn, hgw, hR, hb3⟩))
      have hb3' := hb3.mono hb2.size
      have hs1 := hb1.size
      have hs2 := hb2.size
      have hs3 := hb3.size
      have hw3 : Below w.heap.size w w3 := hb1.trans ((hb2.trans (hb3.mono hb2.size)).mono hb1.size)
      have hba := (Below.refl w3.heap.size w3).alloc (Nat.le_refl _) (.cells #[.pointer (some ⟨h, 0, none⟩)] 29)
      have hw4 := hw3.trans (hba.mono hw3.size)
      have hBt : Both (w3.alloc (.cells #[.pointer (some ⟨h, 0, none⟩)] 29)) w.heap.size N 0 g gl h gs gn gw w3.heap.size (DS.new N) :=
        ⟨Kept.new N, (hP.below hb3).below hba, hR.below hba, Blk.new w3 29 _, by omega, by omega, by omega, by omega, by omega, by omega, by omega⟩
      have HBt := Lib.hid (And.intro hBt hw4)
      clear hBt hw4 hba hw3 hb3' hb1 hb2 hb3 hP hR hs1 hs2 hs3
      obtain ⟨br, hbr⟩ : ∃ br, br = w3.heap.size := ⟨_, rfl⟩
      rw [← hbr] at HBt ⊢
      clear hbr
      go_loopw [6, 8] (fun d i wr => ∃ (k g gl h gs gn gw : Nat) (s : DS), k ≤ 40 ∧ (k ≤ n) ∧ d = .pointer (some ⟨g, 0, none⟩) ∧ i = .int .i64 k ∧ Both wr w.heap.size N k g gl h gs gn gw br s ∧ Below w.heap.size w wr) (fun _ i _ => 41 - (intOf i).toNat)
      case atStart => exact ⟨0, g, gl, h, gs, gn, gw, DS.new N, by omega, by omega, rfl, rfl, HBt.out.1, HBt.out.2⟩
      case round =>
        obtain ⟨k, g, gl, h, gs, gn, gw, s, hk, hkn, rfl, rfl, hB, hlow⟩ := hrel
        have hkept := hB.kept
        have hnn : s.n ≤ 65536 := by have := hkept.n; omega
        by_cases hlt : k < n ∧ k < 40
        · obtain ⟨hk1, hk2⟩ := hlt
          obtain ⟨b0, o0, rfl, hops⟩ := ho (by omega)
          have ok0 := hops k hk1
          generalize f k = r at ok0
          obtain ⟨kd, ix, nn, ba, bn, bc, bl, ka, kn, kc, kl⟩ := r
          have hM0 := Mid.start hB hlow ⟨kd, ix, nn, ba, bn, bc, bl, ka, kn, kc, kl⟩
          have okr := ok0.below hlow
          obtain ⟨c0, c1, c2, c3, c4⟩ := row34 okr.row
          have ok1 := ok0.below hM0.low
          have hfull := full_all ba bn bc bl nn _ ok1.bytes ok1.blen
          dsimp only [OpR.cells] at c0 c1 c2 c3 c4 hfull
          have hki : (k : Int) < n := by omega
          have hki2 : (k : Int) < 40 := by omega
          have HM0 := Lib.hid hM0
          have Hok := Lib.hid ok0
          have Hkept := Lib.hid hkept
          clear hB hlow hM0 ok0 ok1 okr hops ho hkept
          have tok1 : True := trivial
          by_cases hk0 : kd = 0
          · skip
            subst hk0
            by_cases q1 : nn < 0
            · skip
              go_wp2_with (first
                | (go_at_call 10; have _t := tok1; refine hfull.mono ?_; rintro e w1 ⟨b1, rfl, hb1, hB1, hbl1⟩; clear _t tok1; have tok2 : True := trivial; have HM1 := Lib.hid (HM0.out.below hbl1); obtain ⟨f0, f1, f2, f3, f4, f5, f6, f7⟩ := HM1.out.facts)
                | (go_at_call 10; have _t := tok2; refine (full_all ba bn bc bl 256 w1 ((Hok.out.below HM1.out.low).bytes) Hok.out.blen).mono ?_; rintro e w2 ⟨b2, rfl, hb2, hB2, hbl2⟩; have HM2 := Lib.hid (HM1.out.below hbl2); obtain ⟨i0, i1, i2, i3, i4, i5, i6, i7⟩ := HM2.out.facts)
                | (go_at_call 11; refine (write_all HM2.out.pd Hkept.out (by omega) ix ⟨b2, 0, none⟩ _ _ _ (brow_bytes hB2)).mono ?_; rintro e w4 ⟨rfl, hF4, hP4⟩; have HM4 := Lib.hid (HM2.out.dk hF4 hP4); obtain ⟨-, g1, g2, g3, g4, g5, g6, g7⟩ := HM4.out.facts; have hB4 := hB2.fr hF4 (dk_not (by decide) (by decide)))
                | (go_at_call 12; refine (rwrite_all HM4.out.rd Hkept.out (by omega) ix ⟨b2, 0, none⟩ _ _ _ (brow_bytes hB4)).mono ?_; rintro e w5 ⟨rfl, hF5, hR5⟩; have HM5 := Lib.hid (HM4.out.rk hF5 hR5); obtain ⟨-, j1, j2, j3, j4, j5, j6, j7⟩ := HM5.out.facts)
                | (go_at_call 20; refine (same_any HM5.out.pd HM5.out.rd (by rw [(Hkept.out.write ix (fullL bl 256)).n]; omega) ix).mono ?_; rintro e w6 ⟨rfl, hb6⟩))
              have hM6 := HM5.out.below hb6
              exact ⟨⟨k + 1, g, gl, h, gs, gn, gw, (s.writeTo ix (fullL bl 256)), by omega, by omega, rfl, by go_num, hM6.both (Hkept.out.write ix (fullL bl 256)), hM6.low⟩, by simp [intOf]; omega⟩
            · by_cases q2 : 300 < nn
              · skip
                go_wp2_with (first
                  | (go_at_call 10; have _t := tok1; refine hfull.mono ?_; rintro e w1 ⟨b1, rfl, hb1, hB1, hbl1⟩; clear _t tok1; have tok2 : True := trivial; have HM1 := Lib.hid (HM0.out.below hbl1); obtain ⟨f0, f1, f2, f3, f4, f5, f6, f7⟩ := HM1.out.facts)
                  | (go_at_call 10; have _t := tok2; refine (full_all ba bn bc bl 256 w1 ((Hok.out.below HM1.out.low).bytes) Hok.out.blen).mono ?_; rintro e w2 ⟨b2, rfl, hb2, hB2, hbl2⟩; have HM2 := Lib.hid (HM1.out.below hbl2); obtain ⟨i0, i1, i2, i3, i4, i5, i6, i7⟩ := HM2.out.facts)
                  | (go_at_call 11; refine (write_all HM2.out.pd Hkept.out (by omega) ix ⟨b2, 0, none⟩ _ _ _ (brow_bytes hB2)).mono ?_; rintro e w4 ⟨rfl, hF4, hP4⟩; have HM4 := Lib.hid (HM2.out.dk hF4 hP4); obtain ⟨-, g1, g2, g3, g4, g5, g6, g7⟩ := HM4.out.facts; have hB4 := hB2.fr hF4 (dk_not (by decide) (by decide)))
                  | (go_at_call 12; refine (rwrite_all HM4.out.rd Hkept.out (by omega) ix ⟨b2, 0, none⟩ _ _ _ (brow_bytes hB4)).mono ?_; rintro e w5 ⟨rfl, hF5, hR5⟩; have HM5 := Lib.hid (HM4.out.rk hF5 hR5); obtain ⟨-, j1, j2, j3, j4, j5, j6, j7⟩ := HM5.out.facts)
                  | (go_at_call 20; refine (same_any HM5.out.pd HM5.out.rd (by rw [(Hkept.out.write ix (fullL bl 256)).n]; omega) ix).mono ?_; rintro e w6 ⟨rfl, hb6⟩))
                have hM6 := HM5.out.below hb6
                exact ⟨⟨k + 1, g, gl, h, gs, gn, gw, (s.writeTo ix (fullL bl 256)), by omega, by omega, rfl, by go_num, hM6.both (Hkept.out.write ix (fullL bl 256)), hM6.low⟩, by simp [intOf]; omega⟩
              · skip
                go_wp2_with (first
                  | (go_at_call 10; have _t := tok1; refine hfull.mono ?_; rintro e w1 ⟨b1, rfl, hb1, hB1, hbl1⟩; clear _t tok1; have tok2 : True := trivial; have HM1 := Lib.hid (HM0.out.below hbl1); obtain ⟨f0, f1, f2, f3, f4, f5, f6, f7⟩ := HM1.out.facts)
                  | (go_at_call 11; refine (write_all HM1.out.pd Hkept.out (by omega) ix ⟨b1, 0, none⟩ _ _ _ (brow_bytes hB1)).mono ?_; rintro e w4 ⟨rfl, hF4, hP4⟩; have HM4 := Lib.hid (HM1.out.dk hF4 hP4); obtain ⟨-, g1, g2, g3, g4, g5, g6, g7⟩ := HM4.out.facts; have hB4 := hB1.fr hF4 (dk_not (by decide) (by decide)))
                  | (go_at_call 12; refine (rwrite_all HM4.out.rd Hkept.out (by omega) ix ⟨b1, 0, none⟩ _ _ _ (brow_bytes hB4)).mono ?_; rintro e w5 ⟨rfl, hF5, hR5⟩; have HM5 := Lib.hid (HM4.out.rk hF5 hR5); obtain ⟨-, j1, j2, j3, j4, j5, j6, j7⟩ := HM5.out.facts)
                  | (go_at_call 20; refine (same_any HM5.out.pd HM5.out.rd (by rw [(Hkept.out.write ix (fullL bl nn)).n]; omega) ix).mono ?_; rintro e w6 ⟨rfl, hb6⟩))
                have hM6 := HM5.out.below hb6
                exact ⟨⟨k + 1, g, gl, h, gs, gn, gw, (s.writeTo ix (fullL bl nn)), by omega, by omega, rfl, by go_num, hM6.both (Hkept.out.write ix (fullL bl nn)), hM6.low⟩, by simp [intOf]; omega⟩
          · by_cases hk1' : kd = 1
            · subst hk1'
              clear hk0
              go_wp2_with (first
                | (go_at_call 10; have _t := tok1; refine hfull.mono ?_; rintro e w1 ⟨b1, rfl, hb1, hB1, hbl1⟩; clear _t tok1; have tok2 : True := trivial; have HM1 := Lib.hid (HM0.out.below hbl1); obtain ⟨f0, f1, f2, f3, f4, f5, f6, f7⟩ := HM1.out.facts)
                | (go_at_call 13; refine (sync_all HM1.out.pd Hkept.out (by omega) (by omega)).mono ?_; rintro e w4 ⟨rfl, hF4, hP4⟩; have HM4 := Lib.hid (HM1.out.dk hF4 hP4); obtain ⟨-, g1, g2, g3, g4, g5, g6, g7⟩ := HM4.out.facts)
                | (go_at_call 14; refine (rsync_all HM4.out.rd Hkept.out (by omega) (by omega)).mono ?_; rintro e w5 ⟨rfl, hF5, hR5⟩; have HM5 := Lib.hid (HM4.out.rk hF5 hR5); obtain ⟨-, j1, j2, j3, j4, j5, j6, j7⟩ := HM5.out.facts)
                | (go_at_call 20; refine (same_any HM5.out.pd HM5.out.rd (by rw [Hkept.out.sync.n]; omega) ix).mono ?_; rintro e w6 ⟨rfl, hb6⟩))
              have hM6 := HM5.out.below hb6
              exact ⟨⟨k + 1, g, gl, h, gs, gn, gw, s.syncTo, by omega, by omega, rfl, by go_num, hM6.both Hkept.out.sync, hM6.low⟩, by simp [intOf]; omega⟩
            · by_cases hk2' : kd = 2
              · subst hk2'
                clear hk0 hk1'
                go_wp2_with (first
                  | (go_at_call 10; have _t := tok1; refine hfull.mono ?_; rintro e w1 ⟨b1, rfl, hb1, hB1, hbl1⟩; clear _t tok1; have tok2 : True := trivial; have HM1 := Lib.hid (HM0.out.below hbl1); obtain ⟨f0, f1, f2, f3, f4, f5, f6, f7⟩ := HM1.out.facts)
                  | (go_at_call 15; refine (fuse_any HM1.out.pd nn).mono ?_; rintro e w4 ⟨rfl, hF4, hP4⟩; have HM4 := Lib.hid (HM1.out.hd hF4 hP4); obtain ⟨-, g1, g2, g3, g4, g5, g6, g7⟩ := HM4.out.facts)
                  | (go_at_call 16; refine (setFuse_any HM4.out.rd nn).mono ?_; rintro e w5 ⟨rfl, hF5, hR5⟩; have HM5 := Lib.hid (HM4.out.rh hF5 hR5); obtain ⟨-, j1, j2, j3, j4, j5, j6, j7⟩ := HM5.out.facts)
                  | (go_at_call 20; refine (same_any HM5.out.pd HM5.out.rd (by rw [(Hkept.out.fuse nn Hok.out.top).n]; omega) ix).mono ?_; rintro e w6 ⟨rfl, hb6⟩))
                have hM6 := HM5.out.below hb6
                exact ⟨⟨k + 1, g, gl, h, gs, gn, gw, (s.fuse nn), by omega, by omega, rfl, by go_num, hM6.both (Hkept.out.fuse nn Hok.out.top), hM6.low⟩, by simp [intOf]; omega⟩
              · skip
                go_wp2_with (first
                  | (go_at_call 10; have _t := tok1; refine hfull.mono ?_; rintro e w1 ⟨b1, rfl, hb1, hB1, hbl1⟩; clear _t tok1; have tok2 : True := trivial; have HM1 := Lib.hid (HM0.out.below hbl1); obtain ⟨f0, f1, f2, f3, f4, f5, f6, f7⟩ := HM1.out.facts; have ok1 := Hok.out.below HM1.out.low; have hkj := kj_start HM1.out ok1.keep ok1.far; have Hkj := Lib.hid hkj; clear hkj ok1)
                  | (go_at_call 17; refine (crash_any (w := CX w1) (HM1.out.pd.below (cx_below w1)) (by rw [Hkept.out.n]; exact h1) hnn (keeper_any Hkj.out)).mono ?_; rintro e w4 ⟨gx, glx, rfl, hgx, hglx, hPx, -, hF4, hq4⟩; have Hj4 := Lib.hid (KQ.kj Hkj.out hq4); have g5 := Hj4.out.r.cell 0; have g4 := Hj4.out.o.cell 4; simp only [List.getElem?_toArray, List.getElem?_cons_zero, List.getElem?_cons_succ] at g4 g5)
                  | (go_at_call 19; refine (rcrash_any Hj4.out.rd (by rw [Hkept.out.n]; exact h1) hnn ka kn kc kl Hj4.out.keep).mono ?_; rintro e w5 ⟨hx, gsx, gnx, gwx, rfl, q1, q2, q3, q4, hRx, hbx⟩; have hmc := mid_crash HM1.out hF4 hPx hgx hglx Hj4.out.fine hRx hbx q1 q2 q3 q4; have HM5 := Lib.hid hmc.1; obtain ⟨-, j8, j9, j10⟩ := hmc; have j11 : br < w5.heap.size := (by have := HM5.out.box.lt; simpa [World.setCell] using this); obtain ⟨-, j1, j2, j3, j4, j5, j6, j7⟩ := HM5.out.facts)
                  | (go_at_call 20; refine (same_any HM5.out.pd HM5.out.rd (by rw [(Hkept.out.crash (keepOf kl)).n]; omega) ix).mono ?_; rintro e w6 ⟨rfl, hb6⟩))
                have hM6 := HM5.out.below hb6
                exact ⟨⟨k + 1, gx, glx, hx, gsx, gnx, gwx, s.crash (keepOf kl), by omega, by omega, rfl, by go_num, hM6.both (Hkept.out.crash (keepOf kl)), hM6.low⟩, by simp [intOf]; omega⟩
        · have hls : (k : Int) < n → ¬ (k : Int) < 40 := fun _ => by omega
          have hk40 : decide (k < n ∧ k < 40) = false := by simp; omega
          have hlen : ∀ i, i < s.n → (s.now i).length = 256 := by
            obtain ⟨nv, sv, _, _, hd⟩ := hB.rd.data
            exact fun i hi => by obtain ⟨_, e, b, _⟩ := (hd i hi).1; exact b.1
          have hil := image_length s.now s.n hlen
          have hn1 : 1 ≤ s.n := by rw [hkept.n]; exact h1
          have kb0 := hB.box.cell 0
          simp only [List.getElem?_toArray, List.getElem?_cons_zero] at kb0
          have hbl := hB.box.lt
          have HP := Lib.hid hB.pd
          have HR := Lib.hid hB.rd
          have Hlow := Lib.hid hlow
          clear hB hlow hlen hkept
          have key : (k : Int) < n ∨ ¬ (k : Int) < n := Decidable.em _
          rcases key with q | q
          case' inl =>
            have q2 := hls q
          case' inl | inr =>
            clear hls hk40
            go_upto_region 38 with fail
            have Hil := Lib.hid hil
            clear hil
            refine wp_region_noPanic ?_
            refine wp_region_held_drew (S := fun w' => w'.cell? ⟨br, 0, none⟩ = some (.pointer (some ⟨h, 0, none⟩))) (by kernel_rfl) ?_ (fun hHeld => ?_)
            · exact kb0
            refine wpAnyH_take (i := 0) (v := ?_) (by simp only [List.getElem?_toArray, List.getElem?_cons_zero, List.getElem?_cons_succ]; rfl) (by kernel_rfl) (by kernel_rfl) (by kernel_rfl) (fun _ _ _ h => h) (Or.inl ⟨by rfl, ?_⟩) (by assumption) ?_
            rotate_left
            · intro w hSw; (try dsimp only at hSw); go_simp; try (with_reducible rfl)
            try simp only [Act.put, List.setIfInBounds_toArray, List.set_cons_zero, List.set_cons_succ]
            refine wpAnyH_take (i := 1) (v := ?_) (by simp only [List.getElem?_toArray, List.getElem?_cons_zero, List.getElem?_cons_succ]; rfl) (by kernel_rfl) (by kernel_rfl) (by kernel_rfl) (fun _ _ _ h => h) (Or.inl ⟨by rfl, ?_⟩) (by assumption) ?_
            rotate_left
            · intro w hSw; (try dsimp only at hSw); go_simp; try (with_reducible rfl)
            try simp only [Act.put, List.setIfInBounds_toArray, List.set_cons_zero, List.set_cons_succ]
            refine wpAnyH_take (i := 2) (v := ?_) (by simp only [List.getElem?_toArray, List.getElem?_cons_zero, List.getElem?_cons_succ]; rfl) (by kernel_rfl) (by kernel_rfl) (by kernel_rfl) (fun _ _ _ h => h) (Or.inl ⟨by rfl, ?_⟩) (by assumption) ?_
            rotate_left
            · intro w hSw; (try dsimp only at hSw); go_simp; try (with_reducible rfl)
            try simp only [Act.put, List.setIfInBounds_toArray, List.set_cons_zero, List.set_cons_succ]
            refine wpAnyH_take (i := 3) (v := ?_) (by simp only [List.getElem?_toArray, List.getElem?_cons_zero, List.getElem?_cons_succ]; rfl) (by kernel_rfl) (by kernel_rfl) (by kernel_rfl) (fun _ _ _ h => h) (Or.inl ⟨by rfl, ?_⟩) (by assumption) ?_
            rotate_left
            · intro w hSw; (try dsimp only at hSw); go_simp; try (with_reducible rfl)
            try simp only [Act.put, List.setIfInBounds_toArray, List.set_cons_zero, List.set_cons_succ]
            refine wpAnyH_take (i := 4) (v := ?_) (by simp only [List.getElem?_toArray, List.getElem?_cons_zero, List.getElem?_cons_succ]; rfl) (by kernel_rfl) (by kernel_rfl) (by kernel_rfl) (fun _ _ _ h => h) (Or.inl ⟨by rfl, ?_⟩) (by assumption) ?_
            rotate_left
            · intro w hSw; (try dsimp only at hSw); go_simp; try (with_reducible rfl)
            try simp only [Act.put, List.setIfInBounds_toArray, List.set_cons_zero, List.set_cons_succ]
            refine wpAnyH_take (i := 5) (v := ?_) (by simp only [List.getElem?_toArray, List.getElem?_cons_zero, List.getElem?_cons_succ]; rfl) (by kernel_rfl) (by kernel_rfl) (by kernel_rfl) (fun _ _ _ h => h) (Or.inl ⟨by rfl, ?_⟩) (by assumption) ?_
            rotate_left
            · intro w hSw; (try dsimp only at hSw); go_simp; try (with_reducible rfl)
            try simp only [Act.put, List.setIfInBounds_toArray, List.set_cons_zero, List.set_cons_succ]
            refine wpAnyH_take (i := 8) (v := ?_) (by simp only [List.getElem?_toArray, List.getElem?_cons_zero, List.getElem?_cons_succ]; rfl) (by kernel_rfl) (by kernel_rfl) (by kernel_rfl) (fun _ _ _ h => h) (Or.inl ⟨by rfl, ?_⟩) (by assumption) ?_
            rotate_left
            · intro w hSw; (try dsimp only at hSw); go_simp; try (with_reducible rfl)
            try simp only [Act.put, List.setIfInBounds_toArray, List.set_cons_zero, List.set_cons_succ]
            refine wpAnyH_ready (rs := [6]) (by kernel_rfl) (by simp) (AllReadyH.cons (by simp only [List.getElem?_toArray, List.getElem?_cons_zero, List.getElem?_cons_succ]; rfl) (fun K hK => ?_) AllReadyH.nil)
            go_simp
            go_at_call 21
            refine (image_any (w := wr.drew) HP.out hnn).mono ?_
            rintro e w5 ⟨A5, c5, rfl, hlc5, hB5, hb5⟩
            have hb5 : Below wr.heap.size wr w5 := ⟨hb5.os, hb5.tape, hb5.output, hb5.size, hb5.block⟩
            have kb5 := below_cell hb5 kb0
            have hcv5 := conv_str (c := c5) hB5 (fun e => by have := Hil.out; omega)
            have HR5 := Lib.hid (HR.out.below hb5)
            try go_wp2_with fail
            refine hK.out _ _ ?_ (fun hHeld => ?_)
            · exact kb5
            clear hK K
            try simp only [Act.put, List.setIfInBounds_toArray, List.set_cons_zero, List.set_cons_succ]
            refine wpAnyH_ready (rs := [7, 9]) (by kernel_rfl) (by simp) (AllReadyH.cons (by simp only [List.getElem?_toArray, List.getElem?_cons_zero, List.getElem?_cons_succ]; rfl) (fun K hK => ?_) (AllReadyH.cons (by simp only [List.getElem?_toArray, List.getElem?_cons_zero, List.getElem?_cons_succ]; rfl) (fun K hK => ?_) AllReadyH.nil))
            · skip
              go_simp
              refine hK.out _ _ ?_ (fun hHeld => ?_)
              · exact kb5
              clear hK K
              try simp only [Act.put, List.setIfInBounds_toArray, List.set_cons_zero, List.set_cons_succ]
              refine wpAnyH_ready (rs := [9]) (by kernel_rfl) (by simp) (AllReadyH.cons (by simp only [List.getElem?_toArray, List.getElem?_cons_zero, List.getElem?_cons_succ]; rfl) (fun K hK => ?_) AllReadyH.nil)
              go_simp
              go_at_call 22
              refine (rimage_any HR5.out hnn).mono ?_
              rintro e w6 ⟨A6, c6, rfl, hlc6, hB6, hb6⟩
              have kb6 := below_cell hb6 kb5
              have hcv6 := conv_str (c := c6) hB6 (fun e => by have := Hil.out; omega)
              have hcv56 := conv_str (c := c5) (hB5.below hb6) (fun e => by have := Hil.out; omega)
              try go_wp2_with fail
              refine hK.out _ _ ?_ (fun hHeld => ?_)
              · exact kb6
              clear hK K
              try simp only [Act.put, List.setIfInBounds_toArray, List.set_cons_zero, List.set_cons_succ]
              refine wpAnyH_ready (rs := [10]) (by kernel_rfl) (by simp) (AllReadyH.cons (by simp only [List.getElem?_toArray, List.getElem?_cons_zero, List.getElem?_cons_succ]; rfl) (fun K hK => ?_) AllReadyH.nil)
              go_simp
              refine hK.out _ _ ?_ (fun hHeld => ?_)
              · exact kb6
              clear hK K
              try simp only [Act.put, List.setIfInBounds_toArray, List.set_cons_zero, List.set_cons_succ]
              refine wpAnyH_take (i := 11) (v := ?_) (by simp only [List.getElem?_toArray, List.getElem?_cons_zero, List.getElem?_cons_succ]; rfl) (by kernel_rfl) (by kernel_rfl) (by kernel_rfl) (fun _ _ _ h => h) (Or.inl ⟨by rfl, ?_⟩) (by assumption) ?_
              rotate_left
              · intro w hSw; (try dsimp only at hSw); go_simp; try (with_reducible rfl)
              try simp only [Act.put, List.setIfInBounds_toArray, List.set_cons_zero, List.set_cons_succ]
              refine wpAnyH_take (i := 12) (v := ?_) (by simp only [List.getElem?_toArray, List.getElem?_cons_zero, List.getElem?_cons_succ]; rfl) (by kernel_rfl) (by kernel_rfl) (by kernel_rfl) (fun _ _ _ h => h) (Or.inl ⟨by rfl, ?_⟩) (by assumption) ?_
              rotate_left
              · intro w hSw; (try dsimp only at hSw); go_simp; try (with_reducible rfl)
              try simp only [Act.put, List.setIfInBounds_toArray, List.set_cons_zero, List.set_cons_succ]
              refine wpAnyH_take (i := 13) (v := ?_) (by simp only [List.getElem?_toArray, List.getElem?_cons_zero, List.getElem?_cons_succ]; rfl) (by kernel_rfl) (by kernel_rfl) (by kernel_rfl) (fun _ _ _ h => h) (Or.inl ⟨by rfl, ?_⟩) (by assumption) ?_
              rotate_left
              · intro w hSw; (try dsimp only at hSw); go_simp; try (with_reducible rfl)
              try simp only [Act.put, List.setIfInBounds_toArray, List.set_cons_zero, List.set_cons_succ]
              refine wpAnyH_take (i := 14) (v := ?_) (by simp only [List.getElem?_toArray, List.getElem?_cons_zero, List.getElem?_cons_succ]; rfl) (by kernel_rfl) (by kernel_rfl) (by kernel_rfl) (fun _ _ _ h => h) (Or.inl ⟨by rfl, ?_⟩) (by assumption) ?_
              rotate_left
              · intro w hSw; (try dsimp only at hSw); go_simp; try (with_reducible rfl)
              try simp only [Act.put, List.setIfInBounds_toArray, List.set_cons_zero, List.set_cons_succ]
              refine wpAnyH_done (by kernel_rfl) ?_ _
              refine NoPanic.normal ?_
              go_wp2
              go_ret
              exact ⟨rfl, Hlow.out.trans ((hb5.trans (hb6.mono hb5.size)).mono Hlow.out.size)⟩
            · skip
              go_simp
              go_at_call 22
              refine (rimage_any HR5.out hnn).mono ?_
              rintro e w6 ⟨A6, c6, rfl, hlc6, hB6, hb6⟩
              have kb6 := below_cell hb6 kb5
              have hcv6 := conv_str (c := c6) hB6 (fun e => by have := Hil.out; omega)
              have hcv56 := conv_str (c := c5) (hB5.below hb6) (fun e => by have := Hil.out; omega)
              try go_wp2_with fail
              refine hK.out _ _ ?_ (fun hHeld => ?_)
              · exact kb6
              clear hK K
              try simp only [Act.put, List.setIfInBounds_toArray, List.set_cons_zero, List.set_cons_succ]
              refine wpAnyH_ready (rs := [7, 10]) (by kernel_rfl) (by simp) (AllReadyH.cons (by simp only [List.getElem?_toArray, List.getElem?_cons_zero, List.getElem?_cons_succ]; rfl) (fun K hK => ?_) (AllReadyH.cons (by simp only [List.getElem?_toArray, List.getElem?_cons_zero, List.getElem?_cons_succ]; rfl) (fun K hK => ?_) AllReadyH.nil))
              · skip
                go_simp
                refine hK.out _ _ ?_ (fun hHeld => ?_)
                · exact kb6
                clear hK K
                try simp only [Act.put, List.setIfInBounds_toArray, List.set_cons_zero, List.set_cons_succ]
                refine wpAnyH_ready (rs := [10]) (by kernel_rfl) (by simp) (AllReadyH.cons (by simp only [List.getElem?_toArray, List.getElem?_cons_zero, List.getElem?_cons_succ]; rfl) (fun K hK => ?_) AllReadyH.nil)
                go_simp
                refine hK.out _ _ ?_ (fun hHeld => ?_)
                · exact kb6
                clear hK K
                try simp only [Act.put, List.setIfInBounds_toArray, List.set_cons_zero, List.set_cons_succ]
                refine wpAnyH_take (i := 11) (v := ?_) (by simp only [List.getElem?_toArray, List.getElem?_cons_zero, List.getElem?_cons_succ]; rfl) (by kernel_rfl) (by kernel_rfl) (by kernel_rfl) (fun _ _ _ h => h) (Or.inl ⟨by rfl, ?_⟩) (by assumption) ?_
                rotate_left
                · intro w hSw; (try dsimp only at hSw); go_simp; try (with_reducible rfl)
                try simp only [Act.put, List.setIfInBounds_toArray, List.set_cons_zero, List.set_cons_succ]
                refine wpAnyH_take (i := 12) (v := ?_) (by simp only [List.getElem?_toArray, List.getElem?_cons_zero, List.getElem?_cons_succ]; rfl) (by kernel_rfl) (by kernel_rfl) (by kernel_rfl) (fun _ _ _ h => h) (Or.inl ⟨by rfl, ?_⟩) (by assumption) ?_
                rotate_left
                · intro w hSw; (try dsimp only at hSw); go_simp; try (with_reducible rfl)
                try simp only [Act.put, List.setIfInBounds_toArray, List.set_cons_zero, List.set_cons_succ]
                refine wpAnyH_take (i := 13) (v := ?_) (by simp only [List.getElem?_toArray, List.getElem?_cons_zero, List.getElem?_cons_succ]; rfl) (by kernel_rfl) (by kernel_rfl) (by kernel_rfl) (fun _ _ _ h => h) (Or.inl ⟨by rfl, ?_⟩) (by assumption) ?_
                rotate_left
                · intro w hSw; (try dsimp only at hSw); go_simp; try (with_reducible rfl)
                try simp only [Act.put, List.setIfInBounds_toArray, List.set_cons_zero, List.set_cons_succ]
                refine wpAnyH_take (i := 14) (v := ?_) (by simp only [List.getElem?_toArray, List.getElem?_cons_zero, List.getElem?_cons_succ]; rfl) (by kernel_rfl) (by kernel_rfl) (by kernel_rfl) (fun _ _ _ h => h) (Or.inl ⟨by rfl, ?_⟩) (by assumption) ?_
                rotate_left
                · intro w hSw; (try dsimp only at hSw); go_simp; try (with_reducible rfl)
                try simp only [Act.put, List.setIfInBounds_toArray, List.set_cons_zero, List.set_cons_succ]
                refine wpAnyH_done (by kernel_rfl) ?_ _
                refine NoPanic.normal ?_
                go_wp2
                go_ret
                exact ⟨rfl, Hlow.out.trans ((hb5.trans (hb6.mono hb5.size)).mono Hlow.out.size)⟩
              · skip
                go_simp
                refine hK.out _ _ ?_ (fun hHeld => ?_)
                · exact kb6
                clear hK K
                try simp only [Act.put, List.setIfInBounds_toArray, List.set_cons_zero, List.set_cons_succ]
                refine wpAnyH_ready (rs := [7]) (by kernel_rfl) (by simp) (AllReadyH.cons (by simp only [List.getElem?_toArray, List.getElem?_cons_zero, List.getElem?_cons_succ]; rfl) (fun K hK => ?_) AllReadyH.nil)
                go_simp
                refine hK.out _ _ ?_ (fun hHeld => ?_)
                · exact kb6
                clear hK K
                try simp only [Act.put, List.setIfInBounds_toArray, List.set_cons_zero, List.set_cons_succ]
                refine wpAnyH_take (i := 11) (v := ?_) (by simp only [List.getElem?_toArray, List.getElem?_cons_zero, List.getElem?_cons_succ]; rfl) (by kernel_rfl) (by kernel_rfl) (by kernel_rfl) (fun _ _ _ h => h) (Or.inl ⟨by rfl, ?_⟩) (by assumption) ?_
                rotate_left
                · intro w hSw; (try dsimp only at hSw); go_simp; try (with_reducible rfl)
                try simp only [Act.put, List.setIfInBounds_toArray, List.set_cons_zero, List.set_cons_succ]
                refine wpAnyH_take (i := 12) (v := ?_) (by simp only [List.getElem?_toArray, List.getElem?_cons_zero, List.getElem?_cons_succ]; rfl) (by kernel_rfl) (by kernel_rfl) (by kernel_rfl) (fun _ _ _ h => h) (Or.inl ⟨by rfl, ?_⟩) (by assumption) ?_
                rotate_left
                · intro w hSw; (try dsimp only at hSw); go_simp; try (with_reducible rfl)
                try simp only [Act.put, List.setIfInBounds_toArray, List.set_cons_zero, List.set_cons_succ]
                refine wpAnyH_take (i := 13) (v := ?_) (by simp only [List.getElem?_toArray, List.getElem?_cons_zero, List.getElem?_cons_succ]; rfl) (by kernel_rfl) (by kernel_rfl) (by kernel_rfl) (fun _ _ _ h => h) (Or.inl ⟨by rfl, ?_⟩) (by assumption) ?_
                rotate_left
                · intro w hSw; (try dsimp only at hSw); go_simp; try (with_reducible rfl)
                try simp only [Act.put, List.setIfInBounds_toArray, List.set_cons_zero, List.set_cons_succ]
                refine wpAnyH_take (i := 14) (v := ?_) (by simp only [List.getElem?_toArray, List.getElem?_cons_zero, List.getElem?_cons_succ]; rfl) (by kernel_rfl) (by kernel_rfl) (by kernel_rfl) (fun _ _ _ h => h) (Or.inl ⟨by rfl, ?_⟩) (by assumption) ?_
                rotate_left
                · intro w hSw; (try dsimp only at hSw); go_simp; try (with_reducible rfl)
                try simp only [Act.put, List.setIfInBounds_toArray, List.set_cons_zero, List.set_cons_succ]
                refine wpAnyH_done (by kernel_rfl) ?_ _
                refine NoPanic.normal ?_
                go_wp2
                go_ret
                exact ⟨rfl, Hlow.out.trans ((hb5.trans (hb6.mono hb5.size)).mono Hlow.out.size)⟩
end Go.Proofs.Ytadmccbminiadaa
