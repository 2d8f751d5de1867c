/- Contracts: the program's mixing of columns. No condition beyond each theorem's own. -/
import Derived.Test.YtmilanicedjhmaaF5
import Derived.Laws.CopyRow
import Derived.Deep.RegionWith
namespace Go.Proofs.Ytmilanicedjhmaa
open Go.RowKit
set_option linter.unusedSimpArgs false

/-- What has been mixed of the columns ahead of c. -/
def mixTo (s m : Nat → UInt8) (c j : Nat) : UInt8 := if j < 4 * c then mixF s m j else s j
theorem mixTo_zero (s m : Nat → UInt8) : mixTo s m 0 = s := by funext j; simp [mixTo]
theorem mixTo_all (s m : Nat → UInt8) : tab 16 (mixTo s m 4) = tab 16 (mixF s m) := tab_congr fun i hi => by simp [mixTo, hi]
theorem mixTo_at (s m : Nat → UInt8) (c j : Nat) : mixTo s m c (4 * c + j) = s (4 * c + j) := by
  unfold mixTo
  rw [if_neg (by omega)]
def colF (s m : Nat → UInt8) (c r : Nat) : UInt8 := mixAcc s m c r 4
theorem upd_upd {α : Type} (f : Nat → α) (i : Nat) (x y : α) : upd (upd f i x) i y = upd f i y := by
  funext j
  unfold upd
  by_cases h : j = i <;> simp [h]
theorem upd_zeroTo (f : Nat → UInt8) (i : Nat) : upd (zeroTo f i) i 0 = zeroTo f i := by
  funext j
  unfold upd zeroTo
  by_cases h : j = i
  · subst h; simp
  · simp [h]
def Four (m : Nat → UInt8) : Array Value := #[B8 (m 0), B8 (m 1), B8 (m 2), B8 (m 3)]
theorem four_tab (m : Nat → UInt8) : Four m = brow (tab 4 m) := rfl

theorem size5 : (Try.prog.info? 5).map (·.size) = some 1 := by kernel_rfl
/-- A column goes over. -/
theorem copy_col {w : World} {b T : Nat} {t : TypeId} {s m : Nat → UInt8} {c : Nat} (hc : c < 4) (h1 : Blk w T 63 (brow (tab 4 (colF s m c)))) (h2 : Blk w b t (brow (tab 16 (mixTo s m c)))) :
    (Builtin.copy_ #[22, 22] 3 #[.slice (some ⟨b, 4 * c, none⟩) (16 - 4 * c) (16 - 4 * c), .slice (some ⟨T, 0, none⟩) 4 4]).run Try.prog w.drew = .ok (goInt 4) (w.drew.setRow b (brow (tab 16 (mixTo s m (c + 1))))) := by
  have hcs : ((tab 4 (colF s m c)).map B8).length = 4 := by simp
  have h := run_copy_row (P := Try.prog) w.drew 22 22 3 5 b (4 * c) (16 - 4 * c) (16 - 4 * c) ⟨T, 0, none⟩ 4 4 _ t ((tab 4 (colF s m c)).map B8) Try.underlying22 size5 h2 (by rw [hcs]; exact (Nat.min_eq_left (by omega)).symm)
    (fun j v hv => by
      have hj : j < 4 := by have := (List.getElem?_eq_some_iff.1 hv).1; simpa using this
      rw [List.getElem?_map, tab_get _ hj] at hv
      cases hv
      have := h1.cell j
      rw [brow_tab 4 _ hj] at this
      rw [addr_add, Nat.zero_add]
      exact this) (by rw [hcs]; simp [brow]; omega) (fun v hv => by
      obtain ⟨x, _, rfl⟩ := List.mem_map.1 hv
      rfl)
  rw [h, hcs]
  have e : ((brow (tab 16 (mixTo s m c))).toList.take (4 * c) ++ (tab 4 (colF s m c)).map B8 ++ (brow (tab 16 (mixTo s m c))).toList.drop (4 * c + 4)).toArray = brow (tab 16 (mixTo s m (c + 1))) := by
    match c, hc with
    | 0, _ => rfl
    | 1, _ => rfl
    | 2, _ => rfl
    | 3, _ => rfl
  rw [e]
  rfl
theorem fr_setRow {w : World} {g : Nat} (cs : Array Value) : Fr (OnB g) w (w.setRow g cs) :=
  ⟨rfl, rfl, rfl, by simp [World.setRow], fun k o ho hn => by
    have hne : g ≠ k := fun e => hn e.symm
    simpa [World.setRow, Array.getElem?_modify, hne] using ho⟩

set_option maxRecDepth 100000 in
set_option maxHeartbeats 8000000 in
theorem mix_any {w : World} {b : Nat} {t : TypeId} {s m : Nat → UInt8} (h : Blk w b t (brow (tab 16 s))) :
    Calls Try.prog 49 #[.pointer (some ⟨b, 0, none⟩), .agg (Four m)] w fun e w' => e = .returned (.tuple #[]) ∧ Blk w' b t (brow (tab 16 (mixF s m))) ∧ Fr (OnB b) w w' := by
  have hlb0 := h.lt
  go_enter Try.func49, Try.ntmps49
  go_wp2
  have hbx : Blk (w.alloc (.cells (Four m) 63)) w.heap.size 63 (Four m) := Blk.new w 63 _
  have hF0 : Fr (OnB b) w (w.alloc (.cells (Four m) 63)) := (Fr.refl _ w).alloc _
  have hS0 : Blk (w.alloc (.cells (Four m) 63)) b t (brow (tab 16 s)) := h.alloc _
  have hsz0 : (w.alloc (.cells (Four m) 63)).heap.size = w.heap.size + 1 := by simp
  go_loopw [4] (fun vc wr => ∃ c : Nat, c ≤ 4 ∧ vc = .int .i64 (4 * (c : Int)) ∧ Blk wr b t (brow (tab 16 (mixTo s m c))) ∧ Blk wr w.heap.size 63 (Four m) ∧ Fr (OnB b) w wr) (fun vc _ => 16 - (intOf vc).toNat)
  case atStart => exact ⟨0, by omega, rfl, by rw [mixTo_zero]; exact hS0, hbx, hF0⟩
  case round =>
    obtain ⟨c, hc4, rfl, hs, hx, hf⟩ := hrel
    clear hbx hF0 hS0
    by_cases hlt : c < 4
    · have hi : (4 : Int) * c < 16 := by omega
      go_wp2
      obtain ⟨T, hT⟩ : ∃ T, T = wr.heap.size := ⟨_, rfl⟩
      have hbT : b ≠ T := by have := hs.lt; omega
      have hwT : w.heap.size ≠ T := by have := hx.lt; omega
      have k0 : Blk (wr.alloc (.cells #[.int .u8 0, .int .u8 0, .int .u8 0, .int .u8 0] 63)) T 63 (brow (tab 4 (zeroTo (colF s m c) 0))) := by
        rw [zeroTo_zero, hT]
        exact Blk.new wr 63 _
      have k1 := hs.alloc (.cells #[.int .u8 0, .int .u8 0, .int .u8 0, .int .u8 0] 63)
      have k2 := hx.alloc (.cells #[.int .u8 0, .int .u8 0, .int .u8 0, .int .u8 0] 63)
      have k3 := hf.alloc (.cells #[.int .u8 0, .int .u8 0, .int .u8 0, .int .u8 0] 63)
      have hTw : w.heap.size ≤ T := by have := hf.size; omega
      rw [← hT]
      have HK := Lib.hid (And.intro k0 (And.intro k1 (And.intro k2 k3)))
      clear k0 k1 k2 k3 hs hx hf hT
      go_loopw [12] (fun vi wy => ∃ i : Nat, i ≤ 4 ∧ vi = .int .i64 i ∧ Blk wy T 63 (brow (tab 4 (zeroTo (colF s m c) i))) ∧ Blk wy b t (brow (tab 16 (mixTo s m c))) ∧ Blk wy w.heap.size 63 (Four m) ∧ Fr (OnB b) w wy) (fun vi _ => 4 - (intOf vi).toNat)
      case atStart => exact ⟨0, by omega, rfl, HK.out.1, HK.out.2.1, HK.out.2.2.1, HK.out.2.2.2⟩
      case round =>
        obtain ⟨i, hi4, rfl, h1, h2, h3, h4⟩ := hrel
        clear HK
        by_cases hli : i < 4
        · have hi2 : (i : Int) < 4 := by omega
          have HI := Lib.hid (And.intro h1 (And.intro h2 (And.intro h3 h4)))
          clear h1 h2 h3 h4
          go_wp2
          go_loopw [15] (fun vj wz => ∃ j : Nat, j ≤ 4 ∧ vj = .int .i64 j ∧ Blk wz T 63 (brow (tab 4 (upd (zeroTo (colF s m c) i) i (mixAcc s m c i j)))) ∧ Blk wz b t (brow (tab 16 (mixTo s m c))) ∧ Blk wz w.heap.size 63 (Four m) ∧ Fr (OnB b) w wz) (fun vj _ => 4 - (intOf vj).toNat)
          case atStart => exact ⟨0, by omega, rfl, by rw [show mixAcc s m c i 0 = 0 from rfl, upd_zeroTo]; exact HI.out.1, HI.out.2.1, HI.out.2.2.1, HI.out.2.2.2⟩
          case round =>
            obtain ⟨j, hj4, rfl, h1, h2, h3, h4⟩ := hrel
            clear HI
            by_cases hlj : j < 4
            · have hi3 : (j : Int) < 4 := by omega
              have hj0 : (0 : Int) ≤ 4 * c + j := by omega
              have hj1 : (4 : Int) * c + j < 16 := by omega
              have hw2 : IntKind.i64.wrap (4 * (c : Int) + j) = 4 * c + j := wrap_i64 (by omega) (by omega)
              have ht1 : ((4 : Int) * c + j).toNat = 4 * c + j := by omega
              have hw3 : IntKind.i64.wrap ((j : Int) - i) = j - i := wrap_i64 (by omega) (by omega)
              have hw4 : IntKind.i64.wrap ((j : Int) - i + 4) = j - i + 4 := wrap_i64 (by omega) (by omega)
              have ht3 : ((j : Int) - i + 4).tmod 4 = ((j + 4 - i) % 4 : Nat) := by rw [Int.tmod_eq_emod_of_nonneg (by omega)]; omega
              have ht4 : ((j : Int) - i + 4) % 4 = ((j + 4 - i) % 4 : Nat) := by omega
              have hq4 : (j + 4 - i) % 4 < 4 := by omega
              have c0 := h1.cell i
              rw [brow_tab 4 _ hli, show upd (zeroTo (colF s m c) i) i (mixAcc s m c i j) i = mixAcc s m c i j by simp [upd]] at c0
              have f0 := h1.frozen i
              have c1 := h2.cell (4 * c + j)
              rw [brow_tab 16 _ (by omega), mixTo_at s m c j] at c1
              have c2 := h3.cell ((j + 4 - i) % 4)
              rw [four_tab, brow_tab 4 _ hq4] at c2
              have hx := xor_walk (mixAcc s m c i j) (gmul (s (4 * c + j)) (m ((j + 4 - i) % 4)))
              have hnext : mixAcc s m c i (j + 1) = mixAcc s m c i j ^^^ gmul (s (4 * c + j)) (m ((j + 4 - i) % 4)) := rfl
              rw [← hnext] at hx
              clear hnext
              have n0 := h1.set_ i (B8 (mixAcc s m c i (j + 1)))
              rw [brow_tab_set _ _ hli, upd_upd] at n0
              have n1 := Blk.far (p := ⟨T, i, none⟩) h2 hbT (B8 (mixAcc s m c i (j + 1)))
              have n2 := Blk.far (p := ⟨T, i, none⟩) h3 hwT (B8 (mixAcc s m c i (j + 1)))
              have n3 := h4.setNew (p := ⟨T, i, none⟩) hTw (B8 (mixAcc s m c i (j + 1)))
              have HN := Lib.hid (And.intro n0 (And.intro n1 (And.intro n2 n3)))
              have hlT := h1.lt
              clear n0 n1 n2 n3 h1 h2 h3 h4
              generalize (j + 4 - i) % 4 = q at c2 ht3 ht4 hq4 hx
              have hq0 : (0 : Int) ≤ q := by omega
              have hq1 : (q : Int) < 4 := by omega
              go_upto_region 11 with fail
              go_region_with ((go_at_call 80; refine (times_any _ _ _).mono ?_; rintro e w' ⟨rfl, rfl⟩))
              all_goals
                go_wp2
                exact ⟨⟨j + 1, by omega, by go_num, HN.out.1.drew, HN.out.2.1.drew, HN.out.2.2.1.drew, HN.out.2.2.2.drew⟩, by simp [intOf]; omega⟩
            · obtain rfl : j = 4 := by omega
              have hcol : upd (zeroTo (colF s m c) i) i (mixAcc s m c i 4) = zeroTo (colF s m c) (i + 1) := zeroTo_upd (colF s m c) i
              rw [hcol] at h1
              have HN := Lib.hid (And.intro h1 (And.intro h2 (And.intro h3 h4)))
              clear h1 h2 h3 h4 hcol
              go_wp2
              exact ⟨⟨i + 1, by omega, by go_num, HN.out.1, HN.out.2.1, HN.out.2.2.1, HN.out.2.2.2⟩, by simp [intOf]; omega⟩
        · obtain rfl : i = 4 := by omega
          rw [zeroTo_all] at h1
          have hj0 : (0 : Int) ≤ 4 * c := by omega
          have hj1 : (4 : Int) * c ≤ 16 := by omega
          go_upto_region 14 with fail
          have hcp := copy_col hlt h1 h2
          have n1 : Blk (wr.drew.setRow b (brow (tab 16 (mixTo s m (c + 1))))) b t (brow (tab 16 (mixTo s m (c + 1)))) := setRow_heap wr.drew b _ _ t (0, 0) h2
          have n2 : Blk (wr.drew.setRow b (brow (tab 16 (mixTo s m (c + 1))))) w.heap.size 63 (Four m) := h3.drew.fr (fr_setRow _) (fun e => by have e : w.heap.size = b := e; omega)
          have n3 := h4.drew.trans (fr_setRow (w := wr.drew) (g := b) (brow (tab 16 (mixTo s m (c + 1)))))
          have HN := Lib.hid (And.intro n1 (And.intro n2 n3))
          clear n1 n2 n3 h1 h2 h3 h4
          go_region
          go_wp2
          exact ⟨⟨c + 1, by omega, by go_num, HN.out.1, HN.out.2.1, HN.out.2.2⟩, by simp [intOf]; omega⟩
    · obtain rfl : c = 4 := by omega
      rw [mixTo_all] at hs
      go_wp2
      refine bodyPost_end (results_none rfl _ _ _) rfl ?_
      exact ⟨rfl, hs, hf⟩
end Go.Proofs.Ytmilanicedjhmaa
