/- Contract: products, the reference's. No condition beyond each theorem's own. -/
import Derived.Test.YtmilanicedjhmaaF22
namespace Go.Proofs.Ytmilanicedjhmaa
open Go.RowKit
set_option linter.unusedSimpArgs false

theorem Buf.congr_ {w : World} {g : Nat} {f k : Nat → UInt8} (h : Buf w g f) (e : ∀ j < 16, f j = k j) : Buf w g k := by
  obtain ⟨cur, h, hc⟩ := h
  exact ⟨cur, h, fun j hj => by rw [hc j hj, e j hj]⟩
/-- The sum so far, and the moved one, in their own blocks. -/
def RT (w : World) (V : Nat) (z v : Nat → UInt8) (vz : Value) (W : World) : Prop := ∃ zb, vz = .slice (some ⟨zb, 0, none⟩) 16 16 ∧ w.heap.size ≤ zb ∧ zb ≠ V ∧ Blk W zb 5 (brow (tab 16 z)) ∧ Buf W V v ∧ Below w.heap.size w W

set_option maxRecDepth 100000 in
set_option maxHeartbeats 4000000 in
theorem rprod_any {w : World} (A A2 : Option Addr) (c c2 : Nat) (x y : Nat → UInt8) (hA : At w A 16 x) (hA2 : At w A2 16 y) : Calls Try.prog 26 #[.slice A 16 c, .slice A2 16 c2] w (NewTab w 16 (mulF x y)) := by
  have hmk : ∀ w : World, (Instr.makeSlice 22 (.int .i64 16) (.int .i64 16)).run Try.prog w = .ok (.slice (some ⟨w.heap.size, 0, none⟩) 16 16) (w.alloc (.cells (brow (tab 16 fun _ => 0)) 5)) := fun w => madeRow w 16 (by omega)
  have hl0 : Below w.heap.size w (w.alloc (.cells (brow (tab 16 fun _ => 0)) 5)) := (Below.refl _ w).alloc (Nat.le_refl _) _
  have hby := (hA2.below hl0).bytes16
  obtain ⟨i0, hi0, hz0, hz1, hz2⟩ := info_parts info5
  go_enter Try.func26, Try.ntmps26
  go_upto_region 2 with fail
  clear hmk
  refine wp_region_lit ?_
  iterate 3 go_step
  refine wpList_append_any _ rfl (.const (.slice none 0 0)) (.tmp 11) 22 rfl (w.alloc (.cells (brow (tab 16 fun _ => 0)) 5)).heap.size 5 i0 _ 1 1 Try.underlying22 hi0 hz0 hz1 hz2 rfl (by omega) (.slice none 0 0) 0 [] rfl (World.ownsRow_nil _ _ 5 1) _ A2 16 c2 _ rfl hby.reads (oneCell_map _) (by unfold maxLen; omega) (by omega) (Nat.le_refl _) ?_
  intro v1 w1 hown hg hat
  rw [Nat.zero_add, List.nil_append] at hown
  have hlow : Below (w.alloc (.cells (brow (tab 16 fun _ => 0)) 5)).heap.size (w.alloc (.cells (brow (tab 16 fun _ => 0)) 5)) w1 := (Below.refl _ _).grown hg (Nat.le_refl _) (fun k hk => by cases hk)
  obtain ⟨V, cv, rfl, hVz, hcv, hV⟩ := Buf.of_own hown
  have hz1 := (Blk.new w 5 (brow (tab 16 fun _ => 0))).below hlow (by simp)
  have hl1 : Below w.heap.size w w1 := hl0.trans (hlow.mono (by simp))
  have hVz2 : w.heap.size < V := by simp at hVz; omega
  have hR : RT w V (mulS x y 0).1 (mulS x y 0).2 (.slice (some ⟨w.heap.size, 0, none⟩) 16 16) w1 := ⟨w.heap.size, rfl, Nat.le_refl _, by omega, hz1, hV, hl1⟩
  have HVw := Lib.hid (show w.heap.size ≤ V by omega)
  clear hown hlow hz1 hl0 hVz hV hl1 hg hat hby
  go_wp2
  go_loopw [5, 7] (fun vz vi wr => ∃ i : Nat, i ≤ 128 ∧ vi = .int .i64 i ∧ RT w V (mulS x y i).1 (mulS x y i).2 vz wr) (fun _ vi _ => 128 - (intOf vi).toNat)
  case atStart => exact ⟨0, by omega, rfl, hR⟩
  case round =>
    obtain ⟨i, hi, rfl, zb, rfl, hzb, hzV, hz, hv, hlow⟩ := hrel
    clear hR
    by_cases hlt : i < 128
    · obtain ⟨xb, xo, rfl, hx⟩ := hA.below hlow (by omega)
      have hx8 := hx (i / 8) (by omega)
      have hii : (i : Int) < 128 := by omega
      have hi0 : (0 : Int) ≤ i := by omega
      have q0 : (0 : Int) ≤ ((i / 8 : Nat) : Int) := by omega
      have q1 : ((i / 8 : Nat) : Int) < 16 := by omega
      have q2 : ((i : Int)).tdiv 8 = ((i / 8 : Nat) : Int) := by rw [Int.tdiv_eq_ediv_of_nonneg hi0]; omega
      have q3 : ((i : Int)).tmod 8 = ((i % 8 : Nat) : Int) := by rw [Int.tmod_eq_emod_of_nonneg hi0]; omega
      have hs0 : (0 : Int) ≤ 7 - (i : Int) % 8 := by omega
      have hs1 : (7 - (i : Int) % 8) < 8 := by omega
      have hs2 : (7 - (i : Int) % 8).toNat = 7 - i % 8 := by omega
      have hbit : (((x (i / 8)).toNat : Int) / 2 ^ (7 - i % 8)).tmod 2 = ((xbit x i : Nat) : Int) := by
        unfold xbit
        rw [show (((x (i / 8)).toNat : Int) / 2 ^ (7 - i % 8)) = (((x (i / 8)).toNat / 2 ^ (7 - i % 8) : Nat) : Int) by rw [Int.natCast_ediv]; simp]
        rfl
      have ht2 : xbit x i < 2 := by unfold xbit; omega
      obtain ⟨t, ht⟩ : ∃ t, t = xbit x i := ⟨_, rfl⟩
      rw [← ht] at hbit ht2
      have hnz : (mulS x y (i + 1)).1 = addIf t (mulS x y i).1 (mulS x y i).2 := by rw [ht]; rfl
      have hny : (mulS x y (i + 1)).2 = stepF (mulS x y i).2 := rfl
      generalize (mulS x y i).1 = z at hz hnz
      generalize (mulS x y i).2 = v at hv hnz hny
      have Hn := Lib.hid (And.intro hnz hny)
      have hxor := rxor_any (some ⟨zb, 0, none⟩) 16 (At.of_blk hz) (some ⟨V, 0, none⟩) 16 cv hv.at (by omega) (by omega)
      clear hnz hny ht
      have HK := Lib.hid (And.intro hz (And.intro hv hlow))
      clear hz hv hlow hx
      go_upto_region 6 with fail
      refine wp_region_lit ?_
      iterate 33 go_step
      go_upto_if 27 with fail
      go_cut [5] from 27 to 31 (fun v5 wx => RT w V (addIf t z v) v v5 wx)
      case first =>
        by_cases h1 : t = 1
        · subst h1
          clear hx8 hbit
          go_wp2_with (go_at_call 52; refine hxor.mono ?_; rintro e w2 ⟨z2, rfl, hz2b, hz2, hlow2⟩)
          go_meet
          have e1 : addIf 1 z v = fun j => z j ^^^ v j := by funext j; simp [addIf]
          have hVl := HK.out.2.1.lt
          have hlz := HK.out.2.2.size
          exact ⟨z2, rfl, by omega, by omega, by rw [e1]; exact hz2, HK.out.2.1.below hlow2 hVl, HK.out.2.2.trans (hlow2.mono hlz)⟩
        · have h0 : t = 0 := by omega
          subst h0
          clear hx8 hbit
          go_wp2
          go_meet
          have e1 : addIf 0 z v = z := by funext j; simp [addIf]
          exact ⟨zb, rfl, hzb, hzV, by rw [e1]; exact HK.out.1, HK.out.2.1, HK.out.2.2⟩
      case rest =>
        clear HK hxor hbit hx8
        obtain ⟨zb, rfl, hzb, hzV, hz, hv, hlow⟩ := hcut
        have c15 := hv.cell 15 (by omega)
        have HK := Lib.hid (And.intro hz (And.intro hv hlow))
        clear hz hv hlow
        generalize hlo : ((v 15).toNat : Int) % 2 = lo at *
        go_upto_region 10 with fail
        go_loopw [9] (fun vk wk => ∃ (m : Nat) (k : Int), m ≤ 16 ∧ k = (m : Int) - 1 ∧ vk = .int .i64 k ∧ Blk wk zb 5 (brow (tab 16 (addIf t z v))) ∧ Buf wk V (hTo v m) ∧ Below w.heap.size w wk) (fun vk _ => (intOf vk + 1).toNat)
        case atStart => exact ⟨16, 15, by omega, by omega, rfl, HK.out.1, HK.out.2.1.congr_ fun j hj => (hTo_top v j hj).symm, HK.out.2.2⟩
        case round =>
          obtain ⟨m, k, hm, hk, rfl, hz, hv, hlow⟩ := hrel
          clear HK c15
          by_cases h0 : m = 0
          · subst h0
            have hk0 : k < 0 := by omega
            rw [hTo_zero] at hv
            have c0 := hv.cell 0 (by omega)
            have f0 := hv.frozen 0
            have hx := xor_walk (shrF v 0) 0xe1
            have HK := Lib.hid (And.intro hz (And.intro hv hlow))
            clear hk hm hz hv hlow
            by_cases hlo1 : lo = 1
            · have hs : stepF v = upd (shrF v) 0 (shrF v 0 ^^^ 0xe1) := by
                funext j
                unfold stepF upd
                by_cases hj : j = 0
                · rw [if_pos hj, if_pos ⟨hj, by omega⟩]
                · rw [if_neg hj, if_neg (fun h => hj h.1)]
              subst hlo1
              go_wp2
              refine ⟨⟨i + 1, by omega, by go_num, zb, rfl, hzb, hzV, ?_, ?_, ?_⟩, by simp [intOf]; omega⟩
              · rw [Hn.out.1]
                exact HK.out.1.far (p := ⟨V, 0, none⟩) hzV _
              · rw [Hn.out.2, hs]
                have := HK.out.2.1.set_ 0 (shrF v 0 ^^^ 0xe1)
                rw [B8, ← hx] at this
                exact this
              · exact HK.out.2.2.setCell (p := ⟨V, 0, none⟩) HVw.out _
            · have hlo2 : (lo == 1) = false := by simp [hlo1]
              have hs : stepF v = shrF v := by
                funext j
                unfold stepF
                rw [if_neg (fun h => hlo1 (by omega))]
              go_wp2
              refine ⟨⟨i + 1, by omega, by go_num, zb, rfl, hzb, hzV, ?_, ?_, ?_⟩, by simp [intOf]; omega⟩
              · rw [Hn.out.1]
                exact HK.out.1
              · rw [Hn.out.2, hs]
                exact HK.out.2.1
              · exact HK.out.2.2
          · obtain ⟨p, rfl⟩ : ∃ p, m = p + 1 := ⟨m - 1, by omega⟩
            obtain rfl : k = (p : Int) := by omega
            have hp0 : (0 : Int) ≤ p := by omega
            have hp1 : (p : Int) < 16 := by omega
            have c0 := hv.cell p (by omega)
            have e0 : hTo v (p + 1) p = v p := by unfold hTo; rw [if_neg (by omega)]
            rw [e0] at c0
            have f0 := hv.frozen p
            have Hp := Lib.hid (And.intro h0 (And.intro hk hm))
            have hstep := hTo_step v p
            have hsv := shrF_val v p
            cases p with
            | zero =>
              have HK := Lib.hid (And.intro hz (And.intro hv hlow))
              clear hz hv hlow h0 hk hm
              go_wp2
              have e1 : (((v 0).toNat : Int) / 2 % 256) = ((shrF v 0).toNat : Int) := by
                have := (v 0).toNat_lt
                rw [hsv, if_neg (by omega)]
                omega
              rw [e1]
              refine ⟨⟨0, -1, by omega, by omega, rfl, HK.out.1.far (p := ⟨V, 0, none⟩) hzV _, ?_, HK.out.2.2.setCell (p := ⟨V, 0, none⟩) HVw.out _⟩, by simp [intOf]⟩
              rw [← hstep]
              exact HK.out.2.1.set_ 0 _
            | succ q =>
              obtain ⟨h, hh⟩ : ∃ h : UInt8, h = UInt8.ofNat ((v (q + 1)).toNat / 2) := ⟨_, rfl⟩
              have hlt := (v (q + 1)).toNat_lt
              have hh2 : h.toNat = (v (q + 1)).toNat / 2 := by rw [hh, UInt8.toNat_ofNat']; omega
              have hval : (((v (q + 1)).toNat : Int) / 2 % 256) = (h.toNat : Int) := by rw [hh2]; omega
              have n1 := hv.set_ (q + 1) h
              have hlq : q + 1 < 16 := by omega
              have c1 := n1.cell q (by omega)
              have eq1 : upd (hTo v (q + 1 + 1)) (q + 1) h q = v q := by
                unfold upd hTo
                rw [if_neg (by omega), if_neg (by omega)]
              rw [eq1] at c1
              have c2 := n1.cell (q + 1) hlq
              have eq2 : upd (hTo v (q + 1 + 1)) (q + 1) h (q + 1) = h := by unfold upd; rw [if_pos rfl]
              rw [eq2] at c2
              have f2 := n1.frozen (q + 1)
              have hwq : IntKind.i64.wrap ((q : Int) + 1 - 1) = (q : Int) := by rw [show (q : Int) + 1 - 1 = q by omega]; exact wrap_i64 (by omega) (by omega)
              have hq16 : (q : Int) < 16 := by omega
              have hz1 := hz.far (p := ⟨V, q + 1, none⟩) hzV (B8 h)
              have hlow1 := hlow.setCell (p := ⟨V, q + 1, none⟩) HVw.out (B8 h)
              have HK := Lib.hid (And.intro hz1 (And.intro n1 hlow1))
              have Hh := Lib.hid (And.intro hh2 hlt)
              clear hz hv hlow h0 hk hm hz1 n1 hlow1 hh hh2 hlt
              by_cases hod : (v q).toNat % 2 = 1
              · have hod2 : ((v q).toNat : Int) % 2 = 1 := by omega
                go_wp2
                have e1 : (((h.toNat : Int) + 128) % 256) = ((shrF v (q + 1)).toNat : Int) := by
                  have := Hh.out
                  rw [hsv, if_pos (by omega), Nat.add_sub_cancel, hod]
                  omega
                rw [e1]
                refine ⟨⟨q + 1, q, by omega, by omega, rfl, HK.out.1.far (p := ⟨V, q + 1, none⟩) hzV _, ?_, HK.out.2.2.setCell (p := ⟨V, q + 1, none⟩) HVw.out _⟩, by simp [intOf]; omega⟩
                rw [← hstep]
                refine (HK.out.2.1.set_ (q + 1) (shrF v (q + 1))).congr_ fun j _ => ?_
                unfold upd
                by_cases hj : j = q + 1
                · rw [if_pos hj, if_pos hj]
                · rw [if_neg hj, if_neg hj, if_neg hj]
              · have hod2 : ((v q).toNat : Int) % 2 = 0 := by omega
                go_wp2
                refine ⟨⟨q + 1, q, by omega, by omega, rfl, HK.out.1, ?_, HK.out.2.2⟩, by simp [intOf]; omega⟩
                have e1 : h = shrF v (q + 1) := by
                  apply UInt8.toNat_inj.1
                  have := Hh.out
                  rw [hsv, if_pos (by omega), Nat.add_sub_cancel]
                  omega
                rw [← hstep, ← e1]
                exact HK.out.2.1
    · obtain rfl : i = 128 := by omega
      have HZ := Lib.hid hz
      have HL := Lib.hid hlow
      clear hv hlow hz
      go_wp2
      go_ret
      exact ⟨zb, rfl, hzb, HZ.out, HL.out⟩
end Go.Proofs.Ytmilanicedjhmaa
