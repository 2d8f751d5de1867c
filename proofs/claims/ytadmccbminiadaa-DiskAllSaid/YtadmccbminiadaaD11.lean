/- Contracts of the functions of disk and of the law's own, part 11. No condition beyond each theorem's own. -/
import Derived.Test.YtadmccbminiadaaD10
namespace Go.Proofs.Ytadmccbminiadaa
open Go.RowKit Go.Shelf
attribute [local go_sem] Oper.semAt_some

theorem sync_nil (w : World) : Calls Try.prog 13 #[.pointer none] w fun e w' => e = .returned (.bool false) ∧ w = w' := by
  go_enter Try.func13, Try.ntmps13
  go_wp2_with (go_at_call 26; refine (dead_nil _).mono ?_; rintro e w' ⟨rfl, rfl⟩)
  go_ret
  exact ⟨rfl, rfl⟩

set_option maxHeartbeats 1000000 in
theorem dirty_none {n : Nat} (hn : 1 ≤ n) {Bn : Nat} {w : World} (hB : Blk w Bn 27 #[.pointer none]) :
    SeqStopsK Fence.wide n Try.prog 34 #[.pointer (some ⟨Bn, 0, none⟩)] (fun i : Nat => #[.int .i64 (i : Int)]) (Fr KS) (fun xs => xs = []) (fun _ => False) 0 w := fun l J Jx W hW hJ hJx hY h0 => by
  have hB1 := hB.below hW hB.lt
  refine callsIn_of_wp Try.func34 rfl trivial ?_ rfl
  simp only [Try.ntmps34, List.size_toArray, List.length_cons, List.length_nil, Nat.reduceAdd, Nat.reduceSub, Array.replicate_succ, Array.replicate_zero, List.push_toArray, List.append_toArray, List.nil_append, List.cons_append]
  have b0 := hB1.cell 0
  simp only [List.getElem?_toArray, List.getElem?_cons_zero] at b0
  clear hY
  gi_wp2_with (refine ⟨trivial, ?_⟩; gi_at_call 24; refine (callsIn_wide.2 (sectors_nil _)).mono ?_; rintro e w' ⟨rfl, rfl⟩)
  gi_loopw [3, 6] (fun _ i wr => i = .int .i64 0 ∧ J [] wr) (fun _ _ _ => 0)
  case atStart => exact ⟨rfl, h0⟩
  case round =>
    obtain ⟨rfl, hJs⟩ := hrel
    gi_wp2
    go_end0
    exact ⟨⟨_, rfl⟩, .inl ⟨_, rfl, hJs⟩⟩

set_option maxRecDepth 100000 in
set_option maxHeartbeats 2000000 in
theorem none_walk (w : World) : Calls Try.prog 5 #[] w fun e w' => e = .returned (.bool true) ∧ Below w.heap.size w w' := by
  refine (callsIn_wide (n := 5)).1 ?_
  refine callsIn_of_wp_marks Try.func5 rfl trivial ?_ rfl
  simp only [Try.ntmps5, List.size_toArray, List.length_nil, Nat.reduceSub, Array.replicate_succ, Array.replicate_zero, List.push_toArray, List.append_toArray, List.nil_append, List.cons_append]
  have hq := eqlNil48
  gi_wp2_with (first
    | (refine ⟨trivial, ?_⟩; gi_at_call 15; refine (callsIn_wide.2 (fuse_nil _ _)).mono ?_; rintro e w' ⟨rfl, rfl⟩)
    | (refine ⟨trivial, ?_⟩; gi_at_call 23; refine (callsIn_wide.2 (dirty_any _ _)).mono ?_; rintro e w' ⟨rfl, rfl⟩))
  have hbb : Blk ((w.alloc (.cells #[.pointer none] 27)).alloc (.cells #[.int .i64 0] 3)) w.heap.size 27 #[.pointer none] := heap_alloc2_old w _ _
  have hbk : Blk ((w.alloc (.cells #[.pointer none] 27)).alloc (.cells #[.int .i64 0] 3)) (w.heap.size + 1) 3 #[.int .i64 0] := heap_alloc2_new w _ _
  have hba := ((Below.refl w.heap.size w).alloc (Nat.le_refl _) (.cells #[.pointer none] 27)).alloc (by simp) (.cells #[.int .i64 0] 3)
  refine wpIn_rangeFunc_ownF rfl (by omega) (gf := 34) (lb := #[.pointer (some ⟨w.heap.size, 0, none⟩)]) rfl trivial enters34
    (dirty_none (by omega) hbb) (fun h k => Fr.trans h k) (fun W l o o' _ h hc _ => ksB W l o o' h hc) (Below.refl _ _) (fun _ => rfl)
    (fun pre W => Blk W (w.heap.size + 1) 3 #[.int .i64 0] ∧ Below w.heap.size w W) (fun _ _ _ => False)
    (fun s W W' row hi hg hr => ⟨hi.1.fr (fr_of_grown hg (fun r e => (hr r e).2)) nc_not, hi.2.grown hg hi.2.size (fun k e => Nat.le_trans hba.size (hr k e).1)⟩)
    (fun _ _ _ _ _ hs _ _ => hs) ⟨hbk, hba⟩ ?a1 ?assign ?body ?done ?stop
  case assign =>
    intro l x W K hK
    gi_wp2
    exact hK
  case body =>
    rintro l pre x W _ hlen
    exact absurd hlen (by omega)
  case done =>
    rintro D xs W hD rfl ⟨hk, hb⟩ hDo
    gi_wp2_with fail
    refine ⟨trivial, ?_⟩
    refine (callsIn_wide.2 (begun_any _)).mono ?_
    rintro e w1 ⟨rfl, hb1⟩
    have hD1 : w1.heap[D]? = some (.deferred (some [])) := (hb1.block D (lt_of_heap hDo)).trans hDo
    have hk1 := hk.below hb1 hk.lt
    have c1 := hk1.cell 0
    simp only [List.getElem?_toArray, List.getElem?_cons_zero] at c1
    have hbw1 := hb.trans (hb1.mono hb.size)
    have hmk : ∀ w : World, (Instr.makeSlice 31 (.int .i64 256) (.int .i64 256)).run Try.prog w = .ok (.slice (some ⟨w.heap.size, 0, none⟩) 256 256) (w.alloc (.cells (zrow 256) 5)) := fun w => madeRow w 256 (by omega)
    have hl1 := lt_of_heap hk1
    clear hk hDo hb1 hk1 hb hq
    gi_wp2_with (first
      | (refine ⟨trivial, ?_⟩; gi_at_call 24; refine (callsIn_wide.2 (sectors_nil _)).mono ?_; rintro e w' ⟨rfl, rfl⟩)
      | (refine ⟨trivial, ?_⟩; gi_at_call 25; refine (callsIn_wide.2 (read_nil _ _ (by omega))).mono ?_; rintro e w' ⟨rfl, rfl⟩)
      | (refine ⟨trivial, ?_⟩; gi_at_call 11; refine (callsIn_wide.2 (write_nil _ _ _ _ _)).mono ?_; rintro e w' ⟨rfl, rfl⟩)
      | (refine ⟨trivial, ?_⟩; gi_at_call 13; refine (callsIn_wide.2 (sync_nil _)).mono ?_; rintro e w' ⟨rfl, rfl⟩)
      | (refine ⟨trivial, ?_⟩; gi_at_call 26; refine (callsIn_wide.2 (dead_nil _)).mono ?_; rintro e w' ⟨rfl, rfl⟩)
      | (refine ⟨trivial, ?_⟩; gi_at_call 27; refine (callsIn_wide.2 (count_nil _)).mono ?_; rintro e w' ⟨rfl, rfl⟩)
      | (refine ⟨trivial, ?_⟩; gi_at_call 21; refine (callsIn_wide.2 (image_nil _)).mono ?_; rintro e w' ⟨rfl, rfl⟩)
      | (refine ⟨trivial, ?_⟩; gi_at_call 17; refine (callsIn_wide.2 (crash_nil _ _)).mono ?_; rintro e w' ⟨rfl, rfl⟩)
      | (refine ⟨trivial, ?_⟩; gi_at_call 8; refine (callsIn_wide.2 (new_no _ _ (by omega))).mono ?_; rintro e w' ⟨rfl, rfl⟩))
    have hD2 : (w1.alloc (.cells (zrow 256) 5)).heap[D]? = some (.deferred (some [])) := (Below.heap_alloc w1 _ D (lt_of_heap hD1)).trans hD1
    refine ⟨by simp, .inl ⟨_, _, rfl, run_takeDeferred hD2, ?_⟩⟩
    refine ⟨_, results_tmp rfl _ _ _, rfl, ?_⟩
    exact (hbw1.alloc hbw1.size _).trans (belowK_b (w := w) (Nat.le_refl _) _ D _ _ (by simp at hD; omega) hD2 rfl rfl)
  case stop =>
    rintro D c pre W _ _ h _
    exact h.elim
end Go.Proofs.Ytadmccbminiadaa
