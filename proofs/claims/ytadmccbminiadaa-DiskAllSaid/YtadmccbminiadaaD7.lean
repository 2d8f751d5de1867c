/- Contracts of the functions of disk and of the law's own, part 7. No condition beyond each theorem's own. -/
import Derived.Test.YtadmccbminiadaaD6
import Derived.RangeFuncNested
import Derived.RangeFuncBound
import Derived.RangeFuncCalls
import Derived.RangeFuncLeaves
import Derived.Shelf.Abstract
import Derived.Shelf.RegionOpen
import Derived.OwnWalkIn
import Derived.TacticsInMore
import Derived.LoopNIn
import Derived.LoopIn
import Derived.Sort.QuietIn
namespace Go.Proofs.Ytadmccbminiadaa
open Go.RowKit Go.Shelf
attribute [local go_sem] Oper.semAt_some

/-- What a round of a loop over a device's wet sectors may turn: boxes of ints and bools, and what is no cells. -/
def KS (k : Nat) (o : Obj) : Prop := Ty [3, 4] k o ∨ o.isCells = false
theorem ks_not {k : Nat} {c : Array Value} {t : TypeId} {f : Nat × Nat} (h3 : t ≠ 3) (h4 : t ≠ 4) : ¬ KS k (.cells c t f) := by
  rintro (h | h)
  · exact ty_not (by simp [h3, h4]) h
  · cases h

def DS.wetsTo (s : DS) (k : Nat) : List Nat := (List.range k).filter s.wet
theorem wetsTo_succ (s : DS) (k : Nat) : s.wetsTo (k + 1) = s.wetsTo k ++ if s.wet k then [k] else [] := by
  simp only [DS.wetsTo, List.range_succ, List.filter_append]
  congr 1
  cases h : s.wet k <;> simp [h]
theorem wetsTo_len (s : DS) (k : Nat) : (s.wetsTo k).length ≤ k := by
  have := List.length_filter_le s.wet (List.range k)
  simpa [DS.wetsTo] using this
theorem wetsTo_pre (s : DS) {k m : Nat} (h : k ≤ m) : s.wetsTo k <+: s.wetsTo m := by
  induction h with
  | refl => exact List.prefix_refl _
  | step _ ih => rw [wetsTo_succ]; exact ih.trans (List.prefix_append _ _)

theorem dirty_any (p : Option Addr) (w : World) : Calls Try.prog 23 #[.pointer p] w fun e w' => e = .returned (.func (.func 34) #[] #[.pointer (some ⟨w.heap.size, 0, none⟩)]) ∧ w.alloc (.cells #[.pointer p] 27) = w' := by
  go_enter Try.func23, Try.ntmps23
  go_wp2
  go_ret
  exact ⟨rfl, rfl⟩

set_option maxHeartbeats 1000000 in
theorem dirty_stops {n : Nat} (hn : 1 ≤ n) {g gl Bn : Nat} {s : DS} {w : World} (hB : Blk w Bn 27 #[.pointer (some ⟨g, 0, none⟩)]) (hP : PD w g gl s) (hs : s.n ≤ 65536) :
    SeqStopsK Fence.wide n Try.prog 34 #[.pointer (some ⟨Bn, 0, none⟩)] (fun i : Nat => #[.int .i64 (i : Int)]) (Fr KS) (fun xs => xs = s.wetsTo s.n) (fun pre => pre <+: s.wetsTo s.n) s.n w := fun l J Jx W hW hJ hJx hY h0 => by
  have hB1 := hB.below hW hB.lt
  have hP1 := hP.below hW
  refine callsIn_of_wp Try.func34 rfl trivial ?_ rfl
  simp only [Try.ntmps34, List.size_toArray, List.length_cons, List.length_nil, Nat.reduceAdd, Nat.reduceSub, Array.replicate_succ, Array.replicate_zero, List.push_toArray, List.append_toArray, List.nil_append, List.cons_append]
  have b0 := hB1.cell 0
  simp only [List.getElem?_toArray, List.getElem?_cons_zero] at b0
  gi_wp2_with (refine ⟨trivial, ?_⟩; gi_at_call 24; refine (callsIn_wide.2 (sectors_any hP1)).mono ?_; rintro e w' ⟨rfl, rfl⟩)
  clear b0
  gi_loopw [3, 6] (fun _ i wr => ∃ k : Nat, k ≤ s.n ∧ i = .int .i64 k ∧ J (s.wetsTo k) wr ∧ Fr KS W wr) (fun _ i _ => s.n - (intOf i).toNat)
  case atStart => exact ⟨0, by omega, rfl, h0, Fr.refl _ _⟩
  case round =>
    obtain ⟨k, hk, rfl, hJs, hfr⟩ := hrel
    have hB2 := hB1.fr hfr (ks_not (by decide) (by decide))
    have hP2 := hP1.fr hfr (fun _ _ => ks_not (by decide) (by decide)) (fun _ _ => ks_not (by decide) (by decide)) (fun _ _ _ => ks_not (by decide) (by decide))
    have b0 := hB2.cell 0
    simp only [List.getElem?_toArray, List.getElem?_cons_zero] at b0
    by_cases hlt : k < s.n
    · obtain ⟨hv, hw, c0, c1, c2, hd0, hd1, hl1, -⟩ := hP2.sector hlt
      obtain ⟨x0, -⟩ := hP2.1.facts
      clear hB2 hP2 hd0 hd1 c0 c1
      cases hwet : s.wet k
      · rw [hwet] at c2
        have hnx : s.wetsTo (k + 1) = s.wetsTo k := by rw [wetsTo_succ, hwet]; simp
        have Hnx := Lib.hid hnx
        clear hnx hwet hY
        gi_wp2
        refine ⟨fun _ h => (by cases h), ?_⟩
        gi_wp2
        exact ⟨⟨k + 1, by omega, by go_num, by rw [Hnx.out]; exact hJs, hfr⟩, by simp [intOf]; omega⟩
      · obtain ⟨fn, tmps, assign, body, hy, hR⟩ := hY (s.wetsTo k) k wr hJs (by have := wetsTo_len s k; omega)
        rw [hwet] at c2
        have hnx : s.wetsTo (k + 1) = s.wetsTo k ++ [k] := by rw [wetsTo_succ, hwet]; simp
        have Hnx := Lib.hid hnx
        clear hnx hwet hY
        gi_wp2
        refine hR.mono ?_
        rintro e W2 (⟨rfl, hJ2, hk2⟩ | ⟨rfl, hx2⟩)
        · gi_wp2
          exact ⟨⟨k + 1, by omega, by go_num, by rw [Hnx.out]; exact hJ2, hfr.trans hk2⟩, by simp [intOf]; omega⟩
        · gi_wp2
          refine bodyPost_ret (results_none rfl _ _ _) rfl ?_
          exact ⟨⟨_, rfl⟩, .inr ⟨_, Hnx.out ▸ wetsTo_pre s (show k + 1 ≤ s.n by omega), hx2⟩⟩
    · have hkn : k = s.n := by omega
      subst hkn
      clear hY
      gi_wp2
      go_end0
      exact ⟨⟨_, rfl⟩, .inl ⟨_, rfl, hJs⟩⟩
end Go.Proofs.Ytadmccbminiadaa
