/- Contracts: the cipher's tables. No condition beyond each theorem's own. -/
import Derived.Test.YtmilanicedjhmaaP3
import Derived.Deep.MidRow
import Derived.Deep.LoopGhost
import Derived.Deep.RegionHeld3
namespace Go.Proofs.Ytmilanicedjhmaa
open Go.RowKit
set_option linter.unusedSimpArgs false

/-- A cipher's cells: its keys, the table, its inverse. -/
def ccells (kv : Value) (bl il : List UInt8) : Array Value := (kv :: (bl ++ il).map B8).toArray
theorem ccells_zero (kv : Value) (bl il : List UInt8) : (ccells kv bl il)[0]? = some kv := by simp [ccells]
theorem ccells_box (kv : Value) (bl il : List UInt8) (hb : bl.length = 256) {i : Nat} (hi : i < 256) : (ccells kv bl il)[1 + i]? = some (B8 (bl.getD i 0)) := by
  rw [Nat.add_comm]
  simp [ccells, List.getElem?_append, hb, hi]
theorem ccells_inv (kv : Value) (bl il : List UInt8) (hb : bl.length = 256) (hl : il.length = 256) {i : Nat} (hi : i < 256) : (ccells kv bl il)[257 + i]? = some (B8 (il.getD i 0)) := by
  rw [show 257 + i = (256 + i) + 1 by omega]
  simp [ccells, List.getElem?_append, hb, hl, hi]
theorem ccells_set_keys (kv v : Value) (bl il : List UInt8) : (ccells kv bl il).setIfInBounds 0 v = ccells v bl il := by simp [ccells]
theorem ccells_set_box (kv : Value) (bl il : List UInt8) (hb : bl.length = 256) {i : Nat} (hi : i < 256) (x : UInt8) : (ccells kv bl il).setIfInBounds (1 + i) (B8 x) = ccells kv (bl.set i x) il := by
  rw [Nat.add_comm]
  simp [ccells, List.map_set, List.set_append, hb, hi]
theorem ccells_set_inv (kv : Value) (bl il : List UInt8) (hb : bl.length = 256) {i : Nat} (_hi : i < 256) (x : UInt8) : (ccells kv bl il).setIfInBounds (257 + i) (B8 x) = ccells kv bl (il.set i x) := by
  rw [show 257 + i = (256 + i) + 1 by omega]
  simp [ccells, List.map_set, List.set_append, hb]
theorem size60 : (Try.prog.info? 60).map (·.size) = some 256 := by kernel_rfl
theorem index60 (w : World) (cs : Array Value) (k : Nat) (x : UInt8) (hk : k < 256) (hx : cs[k]? = some (B8 x)) : (Instr.index 60 (.agg cs) (.int .i64 (k : Int))).run Try.prog w = .ok (B8 x) w := by
  obtain ⟨i0, hi, hz0, hz1, hz2⟩ := info_parts info5
  simp [Instr.index, go_sem, run_underlying Try.underlying60, sizeOf, typeInfo, hi, hz1, Try.underlying5, hk, hx]
def OnB (g : Nat) (k : Nat) (_ : Obj) : Prop := k = g
theorem onb_in {w : World} {g : Nat} {j : Nat} : ∀ o, w.heap[(⟨g, j, none⟩ : Addr).block]? = some o → OnB g (⟨g, j, none⟩ : Addr).block o := fun _ _ => rfl
def TabOk (w : World) (g : Nat) (kv : Value) (e : Ending) (w' : World) : Prop := e = .returned (.tuple #[]) ∧ Blk w' g 62 (ccells kv (tab 256 sbox) (tab 256 (tboxTo 256))) ∧ Fr (OnB g) w w'

set_option maxRecDepth 100000 in
set_option maxHeartbeats 2000000 in
theorem tables_any {w : World} {g : Nat} {kv : Value} (h : Blk w g 62 (ccells kv (List.replicate 256 0) (tab 256 fun _ => 0))) : Calls Try.prog 45 #[.pointer (some ⟨g, 0, none⟩)] w (TabOk w g kv) := by
  go_enter Try.func45, Try.ntmps45
  go_wp2
  go_loopg [2, 3] 255 (fun m vp vq wr => ∃ k : Nat, k + m = 255 ∧ 0 < m ∧ vp = B8 (gs k).p ∧ vq = B8 (gs k).q ∧ Blk wr g 62 (ccells kv (gs k).l (tab 256 fun _ => 0)) ∧ Fr (OnB g) w wr)
  case atStart => exact ⟨0, by omega, by omega, rfl, rfl, h, Fr.refl _ _⟩
  case round =>
    obtain ⟨k, hk, hk0, rfl, rfl, hb, hf⟩ := hrel
    have hp : (gs k).p ^^^ xt (gs k).p = (gs (k + 1)).p := rfl
    have hq : qd (qc (qb (qa (gs k).q))) = (gs (k + 1)).q := rfl
    have hl : (gs (k + 1)).l = (gs k).l.set (gs (k + 1)).p.toNat (qval (gs (k + 1)).q) := rfl
    have hln := gs_len k
    have hend : k = 254 → (gs (k + 1)).p = 1 := fun e => e ▸ gs_end
    have hon : k < 254 → (gs (k + 1)).p ≠ 1 := gs_on k
    generalize (gs k).p = p at hp
    generalize (gs k).q = q at hq
    generalize hgp : (gs (k + 1)).p = p1 at hp hl hend hon
    generalize hgq : (gs (k + 1)).q = q1 at hq hl
    have hxp := xor_walk p (xt p)
    rw [hp] at hxp
    have x1 := qa_walk q
    have x2 := qb_walk (qa q)
    have x3 := qc_walk (qb (qa q))
    have x4 := qd_walk (qc (qb (qa q)))
    rw [hq] at x4
    obtain ⟨r1, hr1⟩ : ∃ r, r = q1 ^^^ rot 1 q1 := ⟨_, rfl⟩
    obtain ⟨r2, hr2⟩ : ∃ r, r = r1 ^^^ rot 2 q1 := ⟨_, rfl⟩
    obtain ⟨r3, hr3⟩ : ∃ r, r = r2 ^^^ rot 3 q1 := ⟨_, rfl⟩
    obtain ⟨r4, hr4⟩ : ∃ r, r = r3 ^^^ rot 4 q1 := ⟨_, rfl⟩
    obtain ⟨r5, hr5⟩ : ∃ r, r = r4 ^^^ 0x63 := ⟨_, rfl⟩
    have y1 := xor_walk q1 (rot 1 q1)
    rw [← hr1] at y1
    have y2 := xor_walk r1 (rot 2 q1)
    rw [← hr2] at y2
    have y3 := xor_walk r2 (rot 3 q1)
    rw [← hr3] at y3
    have y4 := xor_walk r3 (rot 4 q1)
    rw [← hr4] at y4
    have y5 : bits .xor .u8 r4.toNat 99 = (r5.toNat : Int) := by rw [hr5]; exact xor_walk r4 0x63
    have hv : qval q1 = r5 := by rw [hr5, hr4, hr3, hr2, hr1]; rfl
    rw [hv] at hl
    clear hv hr1 hr2 hr3 hr4 hr5
    have c0 := hb.cell (1 + p1.toNat)
    rw [ccells_box _ _ _ hln p1.toNat_lt] at c0
    have f0 := hb.frozen (1 + p1.toNat)
    have n0 := hb.set_ (1 + p1.toNat) (B8 r5)
    rw [ccells_set_box _ _ _ hln p1.toNat_lt, ← hl] at n0
    have hF := hf.trans ((Fr.refl (OnB g) wr).setIn (p := ⟨g, 1 + p1.toNat, none⟩) (fun _ _ => rfl) (B8 r5))
    have Hn := Lib.hid (And.intro n0 hF)
    have hlg := hb.lt
    have hbi : (p1.toNat : Int) < 256 := by have := p1.toNat_lt; omega
    have Hgp := Lib.hid hgp
    have Hgq := Lib.hid hgq
    clear hp hq hl n0 hF hb hgp hgq
    go_wp2_with (go_at_call 46; refine (twice_any _ _).mono ?_; rintro e w' ⟨rfl, rfl⟩)
    have t1 : True := trivial
    go_region_held3 (fun _ => True) (trivial) (first
      | (go_at_call 78; have _t := t1; refine (turn1_any q1 _).mono ?_; rintro e w' ⟨rfl, rfl⟩; clear _t t1; have t2 : True := trivial)
      | (go_at_call 78; have _t := t2; refine (turn2_any q1 _).mono ?_; rintro e w' ⟨rfl, rfl⟩; clear _t t2; have t3 : True := trivial)
      | (go_at_call 78; have _t := t3; refine (turn3_any q1 _).mono ?_; rintro e w' ⟨rfl, rfl⟩; clear _t t3; have t4 : True := trivial)
      | (go_at_call 78; have _t := t4; refine (turn4_any q1 _).mono ?_; rintro e w' ⟨rfl, rfl⟩))
    rcases Decidable.em (k = 254) with h254 | h254
    · have hp1v := hend h254
      clear hend hon
      have he : ((p1.toNat : Int) == 1) = true := by rw [hp1v]; rfl
      have hk1 : k + 1 = 255 := by omega
      rw [hk1] at Hn
      obtain ⟨W1, hW1⟩ : ∃ W1, W1 = (wr.setCell ⟨g, 1 + p1.toNat, none⟩ (.int .u8 (r5.toNat : Int))).drew := ⟨_, rfl⟩
      have HW : Hid (Blk W1 g 62 (ccells kv (gs 255).l (tab 256 fun _ => 0)) ∧ Fr (OnB g) w W1) := Lib.hid (hW1 ▸ ⟨Hn.out.1.drew, Hn.out.2.drew⟩)
      have z0 := HW.out.1.cell 1
      have z0' := ccells_box kv (gs 255).l (tab 256 fun _ => 0) (gs_len 255) (i := 0) (by omega)
      rw [Nat.add_zero] at z0'
      rw [z0'] at z0
      have zf := HW.out.1.frozen 1
      have zn := HW.out.1.set_ 1 (B8 0x63)
      have zs := ccells_set_box kv (gs 255).l (tab 256 fun _ => 0) (gs_len 255) (i := 0) (by omega) 0x63
      rw [Nat.add_zero] at zs
      rw [zs, gs_box] at zn
      have zF := HW.out.2.trans ((Fr.refl (OnB g) W1).setIn (p := ⟨g, 1, none⟩) (fun _ _ => rfl) (B8 0x63))
      have zl : g < W1.heap.size := HW.out.1.lt
      rw [← hW1]
      clear c0 f0 Hn hW1 y1 y2 y3 y4 y5 x1 x2 x3 x4 hxp HW
      have zr : (W1.setCell ⟨g, 1, none⟩ (.int .u8 99)).rangeAt g 1 ((tab 256 sbox).map B8) := fun j v hv => by
        have hj : j < 256 := by
          have := (List.getElem?_eq_some_iff.1 hv).1
          simpa using this
        have e := zn.cell (1 + j)
        rw [ccells_box _ _ _ (by simp) hj, tab_getD _ hj] at e
        rw [List.getElem?_map, tab_get _ hj] at hv
        cases hv
        exact e
      have hln2 : ((tab 256 sbox).map B8).length = 256 := by simp
      have HZ : Hid (Blk (W1.setCell ⟨g, 1, none⟩ (.int .u8 99)) g 62 (ccells kv (tab 256 sbox) (tab 256 (tboxTo 0))) ∧ Fr (OnB g) w (W1.setCell ⟨g, 1, none⟩ (.int .u8 99))) := Lib.hid ⟨zn, zF⟩
      have hix : ∀ k, k < 256 → ((tab 256 sbox).map B8).toArray[k]? = some (B8 (sbox k)) := fun k hk => brow_tab 256 sbox hk
      clear zn zF z0' zs
      generalize (tab 256 sbox).map B8 = bx at zr hln2 hix
      have Zr := Lib.hid zr
      have Hix := Lib.hid hix
      clear zr hix
      go_wp2
      have hi60 : (Try.prog.info? 60).map (·.size) = some bx.length := by rw [hln2]; exact size60
      refine wp_load_mid 60 (.tmp 54) rfl g 1 rfl bx _ Zr.out Try.underlying60 rfl hi60 ?_
      clear hi60
      clear z0 zf zl Zr hln2 hlg hbi h254 hp1v he hk1 hk hk0 hf hln h
      go_wp2
      go_loopw [56] (fun vi wr => ∃ k : Nat, k ≤ 256 ∧ vi = .int .i64 k ∧ Blk wr g 62 (ccells kv (tab 256 sbox) (tab 256 (tboxTo k))) ∧ Fr (OnB g) w wr) (fun vi _ => 256 - (intOf vi).toNat)
      case atStart => exact ⟨0, by omega, rfl, HZ.out.1, HZ.out.2⟩
      case round =>
        obtain ⟨k, hk, rfl, hb, hf⟩ := hrel
        by_cases hlt : k < 256
        · have hi : (k : Int) < 256 := by omega
          have hx := Hix.out k hlt
          have hidx := index60 wr _ k _ hlt hx
          have hkb := conv_byte k hlt
          have hT : tboxTo (k + 1) = upd (tboxTo k) (sbox k).toNat (UInt8.ofNat k) := rfl
          generalize sbox k = sb at hidx hT
          clear hx
          have c0 := hb.cell (257 + sb.toNat)
          rw [ccells_inv _ _ _ (by simp) (by simp) sb.toNat_lt] at c0
          have f0 := hb.frozen (257 + sb.toNat)
          have n0 := hb.set_ (257 + sb.toNat) (B8 (UInt8.ofNat k))
          rw [ccells_set_inv _ _ _ (by simp) sb.toNat_lt, tab_set _ _ sb.toNat_lt, ← hT, ← hkb] at n0
          have hF := hf.trans ((Fr.refl (OnB g) wr).setIn (p := ⟨g, 257 + sb.toNat, none⟩) (fun _ _ => rfl) (.int .u8 (k : Int)))
          have HN := Lib.hid (And.intro n0 hF)
          have hbi : (sb.toNat : Int) < 256 := by have := sb.toNat_lt; omega
          have hlg := hb.lt
          clear n0 hF hb hf hkb hT
          go_wp2
          exact ⟨⟨k + 1, by omega, by go_num, HN.out.1, HN.out.2⟩, by simp [intOf]; omega⟩
        · obtain rfl : k = 256 := by omega
          go_wp2
          refine bodyPost_end (results_none rfl _ _ _) rfl ?_
          exact ⟨rfl, hb, hf⟩
    · have hp1v := hon (by omega)
      clear hend hon
      have he : ((p1.toNat : Int) == 1) = false := by
        rw [beq_eq_false_iff_ne]
        intro e
        exact hp1v (UInt8.toNat_inj.1 (by simpa using (by omega : p1.toNat = 1)))
      go_wp2
      go_roundg (gk - 1)
      case measure => omega
      case rel => exact ⟨k + 1, by omega, by omega, by rw [Hgp.out], by rw [Hgq.out], Hn.out.1.drew, Hn.out.2.drew⟩
end Go.Proofs.Ytmilanicedjhmaa
