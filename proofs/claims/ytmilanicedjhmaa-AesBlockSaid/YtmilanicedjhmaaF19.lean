/- Contracts: the hash of bytes. No condition beyond each theorem's own. -/
import Derived.Test.YtmilanicedjhmaaF18
namespace Go.Proofs.Ytmilanicedjhmaa
open Go.RowKit
set_option linter.unusedSimpArgs false

def pad16 (l : List UInt8) (j : Nat) : UInt8 := if j < 16 then l.getD j 0 else 0
/-- So many blocks more. -/
def ghTo (h : Nat → UInt8) : Nat → (Nat → UInt8) → List UInt8 → (Nat → UInt8)
  | 0, y, _ => y
  | k + 1, y, l => ghTo h k (mulF (fun j => y j ^^^ pad16 l j) h) (l.drop 16)
def ghF (h : Nat → UInt8) (l : List UInt8) : Nat → UInt8 := ghTo h ((l.length + 15) / 16) (fun _ => 0) l

theorem copy_pad {w : World} {T b o n c m : Nat} {l : List UInt8} (hT : Blk w T 65 (brow (tab 16 fun _ => 0))) (hl : l.length = n) (hr : Row w b o l) (hm : m = min 16 n) :
    (Builtin.copy_ #[22, 22] 3 #[.slice (some ⟨T, 0, none⟩) 16 16, .slice (some ⟨b, o, none⟩) n c]).run Try.prog w = .ok (goInt m) (w.setRow T (brow (tab 16 (pad16 l)))) := by
  have hcs : ((l.take m).map B8).length = m := by simp; omega
  have h := run_copy_row (P := Try.prog) w 22 22 3 5 T 0 16 16 ⟨b, o, none⟩ n c _ 65 ((l.take m).map B8) Try.underlying22 size5 hT (by rw [hcs, hm]; exact Nat.min_comm 16 n)
    (fun j v hv => by
      have hj : j < m := by have := (List.getElem?_eq_some_iff.1 hv).1; rw [hcs] at this; exact this
      rw [List.getElem?_map, List.getElem?_take_of_lt hj] at hv
      obtain ⟨x, hx, rfl⟩ := Option.map_eq_some_iff.1 hv
      rw [addr_add]
      exact hr j x hx) (by rw [hcs]; simp [brow]; omega) (fun v hv => by
      obtain ⟨x, _, rfl⟩ := List.mem_map.1 hv
      rfl)
  rw [h, hcs]
  have e : ((brow (tab 16 fun _ => 0)).toList.take 0 ++ (l.take m).map B8 ++ (brow (tab 16 fun _ => 0)).toList.drop (0 + m)).toArray = brow (tab 16 (pad16 l)) := by
    unfold brow
    congr 1
    simp only [List.take_zero, List.nil_append, Nat.zero_add]
    rw [← List.map_drop, ← List.map_append]
    congr 1
    apply List.ext_getElem?
    intro j
    by_cases hj : j < 16
    · rw [tab_get _ hj]
      by_cases hjm : j < m
      · rw [List.getElem?_append_left (by simp; omega), List.getElem?_take_of_lt hjm]
        have hjl : j < l.length := by omega
        simp [pad16, hj, hjl]
      · rw [List.getElem?_append_right (by simp; omega), List.getElem?_drop]
        have hln : (l.take m).length = m := by simp; omega
        rw [hln, show m + (j - m) = j by omega, tab_get _ hj]
        have hjl : l.length ≤ j := by omega
        simp [pad16, hj, hjl]
    · rw [List.getElem?_eq_none (by simp; omega), List.getElem?_eq_none (by simp; omega)]
  rw [e]
theorem slice_tail {w : World} {b o n c m : Nat} {l : Int} (hl : l = m) (h1 : m ≤ n) (h3 : n ≤ c) :
    ∃ A : Option Addr, (Instr.slice 22 (.slice (some ⟨b, o, none⟩) n c) (some (.int .i64 l)) none none).run Try.prog w = .ok (.slice A (n - m) (c - m)) w ∧ (m < n → A = some ⟨b, o + m, none⟩) := by
  subst hl
  rw [run_slice_l w 22 _ n c Try.underlying22 .i64 m (by omega) (by omega)]
  obtain ⟨i0, hi0, hz0, hz1, hz2⟩ := info_parts info5
  have he : Try.prog.elem 22 = 5 := by kernel_rfl
  simp only [he, sizeOf, typeInfo, Sem.run_bind, run_program, Result.andThen_ok, hi0, Sem.run_pure, hz1, Int.toNat_natCast, sliced]
  refine ⟨_, rfl, fun h => ?_⟩
  rw [if_neg (by omega)]
  simp [addr_add]

set_option maxRecDepth 100000 in
theorem ghash_no (A A2 : Option Addr) (n c n2 c2 : Nat) (w : World) (h : n ≠ 16) : Calls Try.prog 24 #[.slice A n c, .slice A2 n2 c2] w fun e w' => e = .returned (.slice none 0 0) ∧ w = w' := by
  have k1 : ((n : Int) != 16) = true := by simp; omega
  go_enter Try.func24, Try.ntmps24
  go_wp2
  go_ret
  exact ⟨rfl, rfl⟩
set_option maxRecDepth 100000 in
set_option maxHeartbeats 4000000 in
theorem ghash_any {w : World} (A A2 : Option Addr) (c n2 c2 : Nat) (h : Nat → UInt8) (l : List UInt8) (hh : At w A 16 h) (hc : 16 ≤ c) (hB : Bytes w A2 n2 l) (hc2 : n2 ≤ c2) (hc3 : c2 ≤ 9223372036854775807) : Calls Try.prog 24 #[.slice A 16 c, .slice A2 n2 c2] w (Out16 w (tab 16 (ghF h l))) := by
  have r1 := read_any A c h hh hc
  go_enter Try.func24, Try.ntmps24
  unfold elem at r1
  go_wp2_with (first
    | (go_at_call 54; refine r1.mono ?_; rintro e w1 ⟨rfl, hb1⟩))
  clear r1
  obtain ⟨H, hH⟩ : ∃ H, H = w1.heap.size := ⟨_, rfl⟩
  obtain ⟨W1, hW1⟩ : ∃ W1 : World, W1 = ((w1.alloc (Obj.cells #[Value.int IntKind.u64 (g64 h : Nat), Value.int IntKind.u64 (g64 fun j => h (8 + j) : Nat)] 75)).alloc
      (Obj.cells #[Value.int IntKind.u64 0, Value.int IntKind.u64 0] 75)) := ⟨_, rfl⟩
  have hh1 : Blk W1 H 75 (elem h) := by rw [hW1, hH]; exact (Blk.new w1 75 _).alloc _
  have hy1 : Blk W1 (H + 1) 75 (elem fun _ => 0) := by rw [hW1, hH]; exact heap_alloc2_new w1 _ _
  have hlw := hb1.size
  have hl1 : Below w.heap.size w W1 := by rw [hW1]; exact (hb1.alloc hlw _).alloc (by simp; omega) _
  rw [← hW1, ← hH]
  have hHw : w.heap.size ≤ H := by omega
  clear hW1 hH hb1 hlw
  go_loopg [1] n2 (fun m vb wr => ∃ A' c' l' y, vb = .slice A' m c' ∧ m ≤ c' ∧ c' ≤ 9223372036854775807 ∧ Bytes w A' m l' ∧ Blk wr H 75 (elem h) ∧ Blk wr (H + 1) 75 (elem y) ∧ ghTo h ((m + 15) / 16) y l' = ghF h l ∧ Below w.heap.size w wr)
  case atStart => exact ⟨A2, c2, l, fun _ => 0, rfl, hc2, hc3, hB, hh1, hy1, by rw [ghF, hB.1], hl1⟩
  case round =>
    obtain ⟨A', c', l', y, rfl, hmc, hc9, hB', hbh, hby, hgh, hlow⟩ := hrel
    clear hh1 hy1 hl1 hB
    by_cases h0 : 0 < gk
    · obtain ⟨bb, o, rfl, hrow⟩ := hB'.2 h0
      have h0i : (0 : Int) < gk := by omega
      have hln := hB'.1
      obtain ⟨T, hT⟩ : ∃ T, T = wr.heap.size := ⟨_, rfl⟩
      obtain ⟨W2, hW2⟩ : ∃ W2 : World, W2 = wr.alloc (.cells #[Value.int IntKind.u8 0, Value.int IntKind.u8 0, Value.int IntKind.u8 0, Value.int IntKind.u8 0, Value.int IntKind.u8 0, Value.int IntKind.u8 0, Value.int IntKind.u8 0, Value.int IntKind.u8 0, Value.int IntKind.u8 0, Value.int IntKind.u8 0, Value.int IntKind.u8 0, Value.int IntKind.u8 0, Value.int IntKind.u8 0, Value.int IntKind.u8 0, Value.int IntKind.u8 0, Value.int IntKind.u8 0] 65) := ⟨_, rfl⟩
      have hz : Blk W2 T 65 (brow (tab 16 fun _ => 0)) := by rw [hW2, hT]; exact Blk.new wr 65 _
      have hl2 : Below w.heap.size w W2 := by rw [hW2]; exact hlow.alloc hlow.size _
      have hr2 : Row W2 bb o l' := hrow.keep fun a v e hc => below_cell hl2 hc
      obtain ⟨m, hm⟩ : ∃ m, m = min 16 gk := ⟨_, rfl⟩
      have hcp := copy_pad (c := c') hz hln hr2 hm
      have hm1 : m ≤ gk := by omega
      obtain ⟨A3, hsl, hA3⟩ := slice_tail (w := W2.setRow T (brow (tab 16 (pad16 l')))) (b := bb) (o := o) (n := gk) (c := c') (m := m) (l := (m : Int)) rfl hm1 hmc
      obtain ⟨W3, hW3⟩ : ∃ W3 : World, W3 = W2.setRow T (brow (tab 16 (pad16 l'))) := ⟨_, rfl⟩
      rw [← hW3] at hcp hsl
      have hF3 : Fr (OnB T) W2 W3 := hW3 ▸ fr_setRow _
      have hz3 : Blk W3 T 65 (brow (tab 16 (pad16 l'))) := by rw [hW3]; exact setRow_heap W2 T _ _ 65 (0, 0) hz
      have hTw : w.heap.size ≤ T := by have := hlow.size; omega
      have hl3 : Below w.heap.size w W3 := below_new hl2 hF3 hTw hl2.size
      have hbh3 : Blk W3 H 75 (elem h) := by
        have h1 : Blk W2 H 75 (elem h) := by rw [hW2]; exact hbh.alloc _
        exact h1.fr hF3 (fun e => by have e : H = T := e; have := hbh.lt; omega)
      have hby3 : Blk W3 (H + 1) 75 (elem y) := by
        have h1 : Blk W2 (H + 1) 75 (elem y) := by rw [hW2]; exact hby.alloc _
        exact h1.fr hF3 (fun e => by have e : H + 1 = T := e; have := hby.lt; omega)
      have hBn : Bytes w A3 (gk - m) (l'.drop 16) := by
        refine ⟨by rw [List.length_drop]; omega, fun hp => ?_⟩
        have h16 : m = 16 := by omega
        refine ⟨bb, o + m, hA3 (by omega), fun j x hx => ?_⟩
        rw [List.getElem?_drop] at hx
        rw [Nat.add_assoc, h16]
        exact hrow (16 + j) x hx
      have hgn : ghTo h ((gk - m + 15) / 16) (mulF (fun j => y j ^^^ pad16 l' j) h) (l'.drop 16) = ghF h l := by
        rw [← hgh, show (gk + 15) / 16 = (gk - m + 15) / 16 + 1 by omega]
        rfl
      have r2 := read_any (w := W3) (some ⟨T, 0, none⟩) 16 (pad16 l') (At.of_blk hz3) (by omega)
      have hx0 : bits .xor .u64 (g64 y : Nat) (g64 (pad16 l') : Nat) = ((g64 (fun j => y j ^^^ pad16 l' j) : Nat) : Int) := by rw [u64_xor_nat _ _ (g64_lt _) (g64_lt _), g64_xor]
      have hx1 : bits .xor .u64 (g64 (fun j => y (8 + j)) : Nat) (g64 (fun j => pad16 l' (8 + j)) : Nat) = ((g64 (fun j => y (8 + j) ^^^ pad16 l' (8 + j)) : Nat) : Int) := by rw [u64_xor_nat _ _ (g64_lt _) (g64_lt _), g64_xor]
      have HK := Lib.hid (And.intro hBn (And.intro hgn (And.intro hbh3 (And.intro hby3 hl3))))
      rw [hT] at r2
      unfold elem at r2
      have hcp2 : (Builtin.copy_ #[22, 22] 3 #[.slice (some ⟨wr.heap.size, 0, none⟩) 16 16, .slice (some ⟨bb, o, none⟩) gk c']).run Try.prog (wr.alloc (.cells #[Value.int IntKind.u8 0, Value.int IntKind.u8 0, Value.int IntKind.u8 0, Value.int IntKind.u8 0, Value.int IntKind.u8 0, Value.int IntKind.u8 0, Value.int IntKind.u8 0, Value.int IntKind.u8 0, Value.int IntKind.u8 0, Value.int IntKind.u8 0, Value.int IntKind.u8 0, Value.int IntKind.u8 0, Value.int IntKind.u8 0, Value.int IntKind.u8 0, Value.int IntKind.u8 0, Value.int IntKind.u8 0] 65)) = .ok (goInt m) W3 := by rw [← hW2, ← hT]; exact hcp
      have hmc2 : gk - m ≤ c' - m := by omega
      have Hm := Lib.hid (And.intro hm hT)
      clear hcp hgh hrow hB' hbh hby hlow hz hl2 hr2 hF3 hz3 hl3 hbh3 hby3 hBn hgn hW3 hW2 hA3 hm hln hm1
      go_wp2_with (first
        | (go_at_call 54; refine r2.mono ?_; rintro e w4 ⟨rfl, hb4⟩
           obtain ⟨-, -, hbh3, hby3, hl3⟩ := HK.out
           have hh4 := hbh3.below hb4 hbh3.lt
           have hy4 := hby3.below hb4 hby3.lt
           have hl4 : Below w.heap.size w w4 := hl3.trans (hb4.mono hl3.size)
           have cx0 : (w4.alloc (.cells #[.int .u64 (g64 (pad16 l') : Nat), .int .u64 (g64 (fun j => pad16 l' (8 + j)) : Nat)] 75)).cell? ⟨H, 0, none⟩ = some (.int .u64 (g64 h : Nat)) := (hh4.alloc _).cell 0
           have cx1 : (w4.alloc (.cells #[.int .u64 (g64 (pad16 l') : Nat), .int .u64 (g64 (fun j => pad16 l' (8 + j)) : Nat)] 75)).cell? ⟨H, 1, none⟩ = some (.int .u64 (g64 (fun j => h (8 + j)) : Nat)) := (hh4.alloc _).cell 1
           have cy0 : (w4.alloc (.cells #[.int .u64 (g64 (pad16 l') : Nat), .int .u64 (g64 (fun j => pad16 l' (8 + j)) : Nat)] 75)).cell? ⟨H + 1, 0, none⟩ = some (.int .u64 (g64 y : Nat)) := (hy4.alloc _).cell 0
           have cy1 : (w4.alloc (.cells #[.int .u64 (g64 (pad16 l') : Nat), .int .u64 (g64 (fun j => pad16 l' (8 + j)) : Nat)] 75)).cell? ⟨H + 1, 1, none⟩ = some (.int .u64 (g64 (fun j => y (8 + j)) : Nat)) := (hy4.alloc _).cell 1
           have r3 := times_el (w4.alloc (.cells #[.int .u64 (g64 (pad16 l') : Nat), .int .u64 (g64 (fun j => pad16 l' (8 + j)) : Nat)] 75)) (fun j => y j ^^^ pad16 l' j) h
           unfold elem at r3
           have H4 := Lib.hid (And.intro hh4 (And.intro hy4 hl4))
           clear hbh3 hby3 hl3 hh4 hy4 hl4 hb4 r2 hcp2 hsl)
        | (go_at_call 55; refine r3.mono ?_; rintro e w5 ⟨rfl, hb5⟩
           obtain ⟨hh4, hy4, hl4⟩ := H4.out
           have hlz := hl4.size
           have hl4a := hl4.alloc hlz (.cells #[.int .u64 (g64 (pad16 l') : Nat), .int .u64 (g64 (fun j => pad16 l' (8 + j)) : Nat)] 75)
           have hh5 := (hh4.alloc (.cells #[.int .u64 (g64 (pad16 l') : Nat), .int .u64 (g64 (fun j => pad16 l' (8 + j)) : Nat)] 75)).below hb5 (hh4.alloc _).lt
           have hy5 := (hy4.alloc (.cells #[.int .u64 (g64 (pad16 l') : Nat), .int .u64 (g64 (fun j => pad16 l' (8 + j)) : Nat)] 75)).below hb5 (hy4.alloc _).lt
           have hl5 : Below w.heap.size w w5 := hl4a.trans (hb5.mono hl4a.size)
           have dy0 : w5.cell? ⟨H + 1, 0, none⟩ = some (.int .u64 (g64 y : Nat)) := hy5.cell 0
           have dy1 : w5.cell? ⟨H + 1, 1, none⟩ = some (.int .u64 (g64 (fun j => y (8 + j)) : Nat)) := hy5.cell 1
           have df0 := hy5.frozen 0
           have df1 := hy5.frozen 1
           have H5 := Lib.hid (And.intro hh5 (And.intro hy5 hl5))
           clear hh4 hy4 hl4 hl4a hh5 hy5 hl5 hb5 cx0 cx1 cy0 cy1 r3))
      obtain ⟨hh5, hy5, hl5⟩ := H5.out
      obtain ⟨hBn, hgn, -, -, -⟩ := HK.out
      go_roundg (gk - m)
      case measure => have := Hm.out.1; omega
      case rel =>
        refine ⟨A3, c' - m, l'.drop 16, mulF (fun j => y j ^^^ pad16 l' j) h, rfl, hmc2, by omega, hBn, ?_, ?_, hgn, ?_⟩
        · exact (hh5.far (p := ⟨H + 1, 0, none⟩) (by show H ≠ H + 1; omega) _).far (p := ⟨H + 1, 1, none⟩) (by show H ≠ H + 1; omega) _
        · exact (hy5.set_ 0 _).set_ 1 _
        · exact (hl5.setCell (p := ⟨H + 1, 0, none⟩) (by show w.heap.size ≤ H + 1; omega) _).setCell (p := ⟨H + 1, 1, none⟩) (by show w.heap.size ≤ H + 1; omega) _
    · obtain rfl : gk = 0 := by omega
      have hy : y = ghF h l := hgh
      rw [hy] at hby
      have c0 : wr.cell? ⟨H + 1, 0, none⟩ = some (.int .u64 (g64 (ghF h l) : Nat)) := hby.cell 0
      have c1 : wr.cell? ⟨H + 1, 1, none⟩ = some (.int .u64 (g64 (fun j => ghF h l (8 + j)) : Nat)) := hby.cell 1
      have r4 := write_elem wr (ghF h l)
      unfold elem at r4
      have HL := Lib.hid hlow
      clear hy hby hbh hgh hlow hB' h0 hmc
      go_wp2_with (first
        | (go_at_call 56; refine r4.mono ?_; rintro e w6 ⟨v, rfl, ho, hb6⟩))
      go_ret
      have hlz := HL.out.size
      refine ⟨v, rfl, ?_, HL.out.trans (hb6.mono hlz)⟩
      rcases ho.2 with ⟨_, h0⟩ | ⟨g, cap, cur, hv, hbg, hh⟩
      · cases h0
      · exact ⟨ho.1, .inr ⟨g, cap, cur, hv, Nat.le_trans hlz hbg, hh⟩⟩
end Go.Proofs.Ytmilanicedjhmaa
