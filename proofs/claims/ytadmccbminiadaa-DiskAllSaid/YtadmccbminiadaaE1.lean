/- Contracts of the law's own functions, part 12: the same told by both. No condition beyond each theorem's own. -/
import Derived.Test.YtadmccbminiadaaD11
import Derived.Test.YtadmccbminiadaaR5
import Derived.Laws.BytesArg
import Derived.Test.YtadmccbminiadaaE0
import Derived.Deep.RegionLaw
import Derived.Deep.DeepCutAuto
namespace Go.Proofs.Ytadmccbminiadaa
open Go.RowKit Go.Shelf
set_option linter.unusedSimpArgs false
attribute [local go_sem] Oper.semAt_some

def bstr (l : List UInt8) : ByteArray := ⟨l.toArray⟩
theorem bstr_nums (l : List UInt8) : strOfNums (l.map fun x => (x.toNat : Int)) = bstr l := by
  simp [strOfNums, bstr, Function.comp_def]
theorem conv_str {w : World} {A : Option Addr} {n c : Nat} {l : List UInt8} (h : Bytes w A n l) (hA : n = 0 → A = none) : (convert 31 9 (.slice A n c)).run Try.prog w = .ok (.string (bstr l)) w := by
  rcases Nat.eq_zero_or_pos n with rfl | h0
  · have hl : l = [] := List.eq_nil_of_length_eq_zero h.1
    subst hl
    obtain rfl := hA rfl
    exact run_convert_bytes_nil w 31 5 Try.underlying31 Try.underlying5 0 c 9 rfl
  · obtain ⟨b, o, rfl, hr⟩ := h.2 h0
    rw [← bstr_nums]
    refine run_convert_bytes_arg w 31 5 Try.underlying31 Try.underlying5 b o n c _ (by simp [h.1]) (fun i hi => ?_) 9 rfl
    have hl : i < l.length := by rw [h.1]; exact hi
    rw [hr i l[i] (List.getElem?_eq_getElem hl)]
    simp [hl]

theorem wetsTo_next {s : DS} {m : Nat} (h : s.wet m = true) : s.wetsTo (m + 1) = s.wetsTo m ++ [m] := by rw [wetsTo_succ, h]; simp
theorem wetsTo_dry {s : DS} {m : Nat} (h : s.wet m = false) : s.wetsTo (m + 1) = s.wetsTo m := by rw [wetsTo_succ, h]; simp
theorem not_next {s : DS} {m n x : Nat} (hm : m < n) (h : s.wet m = true) (hx : x ≠ m) : ¬ s.wetsTo m ++ [x] <+: s.wetsTo n := by
  intro hp
  have h2 : s.wetsTo m ++ [m] <+: s.wetsTo n := by rw [← wetsTo_next h]; exact wetsTo_pre s hm
  have h3 := List.prefix_of_prefix_length_le hp h2 (by simp)
  have h4 := h3.eq_of_length (by simp)
  simp at h4
  exact hx h4
theorem not_end {s : DS} {n x : Nat} : ¬ s.wetsTo n ++ [x] <+: s.wetsTo n := by
  intro hp
  have := hp.length_le
  simp only [List.length_append, List.length_cons, List.length_nil] at this
  omega
theorem wets_over {s : DS} {m k n : Nat} (h : s.wetsTo n = s.wetsTo m) (h1 : m ≤ k) (h2 : k < n) : s.wet k = false := by
  cases hk : s.wet k
  · rfl
  · have e1 := (wetsTo_pre s h1).length_le
    have e2 := (wetsTo_pre s (show k + 1 ≤ n from h2)).length_le
    rw [wetsTo_next hk, h] at e2
    simp at e2
    omega
def boxNat (w : World) (b : Nat) : Nat := (intOf ((w.cell? ⟨b, 0, none⟩).getD undef)).toNat
theorem round_next {W wr : World} {kb k : Nat} (hin : ∀ o, wr.heap[kb]? = some o → On kb 3 kb o) (hkb : Blk wr kb 3 #[.int .i64 (k : Int)]) (hko : KeepsOthers W wr) (hfr : Fr (On kb 3) W wr) : boxNat wr kb = k ∧ ∀ nq,
    KeepsOthers W ((wr.drewN nq).setCell ⟨kb, 0, none⟩ (.int .i64 ((k : Int) + 1))) ∧ Fr (On kb 3) W ((wr.drewN nq).setCell ⟨kb, 0, none⟩ (.int .i64 ((k : Int) + 1))) ∧
    Blk ((wr.drewN nq).setCell ⟨kb, 0, none⟩ (.int .i64 ((k : Int) + 1))) kb 3 #[.int .i64 ((k + 1 : Nat) : Int)] ∧ boxNat ((wr.drewN nq).setCell ⟨kb, 0, none⟩ (.int .i64 ((k : Int) + 1))) kb = k + 1 := by
  refine ⟨by simp [boxNat, hkb.cell 0, intOf], fun nq => ?_⟩
  have hk2 : Blk ((wr.drewN nq).setCell ⟨kb, 0, none⟩ (.int .i64 ((k : Int) + 1))) kb 3 #[.int .i64 ((k + 1 : Nat) : Int)] := by
    have := (hkb.drewN nq).set_ 0 (.int .i64 ((k : Int) + 1))
    simpa using this
  have h1 : KeepsOthers wr (wr.drewN nq) := ⟨Nat.le_refl _, fun _ _ h _ => h⟩
  refine ⟨(hko.trans h1).trans (KeepsOthers.setCell _ _ _), (hfr.drewN nq).trans ((Fr.refl _ (wr.drewN nq)).setIn hin _), hk2, ?_⟩
  simp [boxNat, hk2.cell 0, intOf]
/-- The caller's word at a round: so far as the reference has been read. -/
def SI (w : World) (h gs gn gw : Nat) (s : DS) (kb : Nat) (pre : List Nat) (W : World) : Prop :=
  Below w.heap.size w W ∧ Blk W w.heap.size 29 #[.pointer (some ⟨h, 0, none⟩)] ∧ Blk W (w.heap.size + 1) 4 #[.bool false] ∧ RD W h gs gn gw s ∧ ∃ m, m ≤ s.n ∧ pre = s.wetsTo m ∧ Blk W kb 3 #[.int .i64 ((m : Int) - 1)]
theorem cell_drewN {w : World} {a : Addr} {v : Value} (h : w.cell? a = some v) (n : Nat) : (w.drewN n).cell? a = some v := h
theorem drewN_drewN (w : World) (a b : Nat) : w.drewN (a + b) = (w.drewN a).drewN b := by simp [World.drewN, Nat.add_assoc]
theorem results_bool {fn : Func} {p : Tmp} (h : fn.results = #[.cell p 4]) (tmps : Array Value) (w : World) (g : Nat) (b : Bool) (hp : tmps.getD p undef = .pointer (some ⟨g, 0, none⟩)) (hc : w.cell? ⟨g, 0, none⟩ = some (.bool b)) :
    (results fn tmps).run Try.prog w = .ok (.bool b) w := by
  have hp' : tmps[p]?.getD undef = .pointer (some ⟨g, 0, none⟩) := by simpa using hp
  simp [results, h, hp', asAddr, go_sem, hc]
theorem same_end {w : World} {g D : Nat} {o : Obj} (h : Blk w g 4 (#[.bool false].setIfInBounds 0 (.bool true))) (hne : g ≠ D) : (w.putObj D o).cell? ⟨g, 0, none⟩ = some (.bool true) := by
  have h2 : Blk (w.putObj D o) g 4 (#[.bool false].setIfInBounds 0 (.bool true)) := (World.putObj_heap_other hne).trans h
  rw [h2.cell]
  rfl
theorem ko_drewN (w : World) (n : Nat) : KeepsOthers w (w.drewN n) := ⟨Nat.le_refl _, fun _ _ h _ => h⟩
theorem SI.drewN {w : World} {h gs gn gw : Nat} {s : DS} {kb : Nat} {pre : List Nat} {W : World} (hi : SI w h gs gn gw s kb pre W) (n : Nat) : SI w h gs gn gw s kb pre (W.drewN n) := by
  obtain ⟨hb, b0, b1, hd, m, hm, hx, hk⟩ := hi
  have hbd : Below W.heap.size W (W.drewN n) := ⟨rfl, rfl, rfl, Nat.le_refl _, fun _ _ => rfl⟩
  exact ⟨hb.trans (hbd.mono hb.size), b0.drewN n, b1.drewN n, hd.below hbd, m, hm, hx, hk.drewN n⟩
theorem RD.nc {W W' : World} {h gs gn gw : Nat} {s : DS} (hr : RD W h gs gn gw s) (hf : Fr NC W W') : RD W' h gs gn gw s := hr.fr hf (fun _ _ => nc_not) (fun _ _ => nc_not) (fun _ _ => nc_not) (fun _ _ => nc_not) (fun _ _ _ => nc_not)
theorem SI.nc {w : World} {h gs gn gw : Nat} {s : DS} {kb B : Nat} {pre : List Nat} {W W' : World} {row : Option Nat} (hi : SI w h gs gn gw s kb pre W) (hB : w.heap.size ≤ B) (hg : W.grownBy W' row)
    (hr : ∀ r, row = some r → B ≤ r ∧ ∃ o : Obj, W.heap[r]? = some o ∧ o.isCells = false) : SI w h gs gn gw s kb pre W' := by
  have hf := fr_of_grown hg (fun r e => (hr r e).2)
  obtain ⟨hb, b0, b1, hd, m, hm, hx, hk⟩ := hi
  exact ⟨hb.grown hg hb.size (fun k e => Nat.le_trans hB (hr k e).1), b0.fr hf nc_not, b1.fr hf nc_not, hd.nc hf, m, hm, hx, hk.fr hf nc_not⟩
theorem same_made {w W0 : World} {h : Nat} (hW : W0 = (w.alloc (.cells #[.pointer (some ⟨h, 0, none⟩)] 29)).alloc (.cells #[.bool false] 4)) :
    Below w.heap.size w W0 ∧ Blk W0 w.heap.size 29 #[.pointer (some ⟨h, 0, none⟩)] ∧ Blk W0 (w.heap.size + 1) 4 #[.bool false] := by
  subst hW
  exact ⟨((Below.refl w.heap.size w).alloc (Nat.le_refl _) _).alloc (by simp) _, heap_alloc2_old w _ _, heap_alloc2_new w _ _⟩

set_option maxRecDepth 100000 in
set_option maxHeartbeats 2000000 in
theorem same_any {w : World} {g gl h gs gn gw : Nat} {s : DS} (hp : PD w g gl s) (hr : RD w h gs gn gw s) (hn : s.n ≤ 65536) (i : Int) :
    Calls Try.prog 20 #[.pointer (some ⟨g, 0, none⟩), .pointer (some ⟨h, 0, none⟩), .int .i64 i] w fun e w' => e = .returned (.bool true) ∧ Below w.heap.size w w' := by
  obtain ⟨cs, cn, l1, l2, hh⟩ := hr.head
  obtain ⟨h0, h1, h2, h3, h4, hf⟩ := hh.facts
  have hlh : h < w.heap.size := Blk.lt hh
  have HP := Lib.hid hp
  have HR := Lib.hid hr
  clear hp hr hh h0 h2 h3
  refine (callsIn_wide (n := 5)).1 ?_
  refine callsIn_of_wp_marks Try.func20 rfl trivial ?_ rfl
  simp only [Try.ntmps20, List.size_toArray, List.length_cons, List.length_nil, Nat.reduceAdd, Nat.reduceSub, Array.replicate_succ, Array.replicate_zero, List.push_toArray, List.append_toArray, List.nil_append, List.cons_append]
  by_cases hi : 0 ≤ i ∧ i < (s.n : Int)
  case' pos =>
    obtain ⟨hi0, hi1⟩ := hi
    obtain ⟨i, rfl⟩ : ∃ k : Nat, i = k := ⟨i.toNat, by omega⟩
    obtain ⟨nv, sv, d1, d2, d3⟩ := HR.out.data
    obtain ⟨c0, hln, fn⟩ := d1.cell (i := i) (by omega)
    have D3 := Lib.hid (d3 i (by omega)).1
    clear d1 d2 d3
    gi_wp2_with fail
    obtain ⟨W0, hW0⟩ : ∃ W0, W0 = (w.alloc (.cells #[.pointer (some ⟨h, 0, none⟩)] 29)).alloc (.cells #[.bool false] 4) := ⟨_, rfl⟩
    rw [← hW0]
    obtain ⟨hbW, hB0, hB1⟩ := same_made hW0
    have k1 := below_cell hbW h1
    have k4 := below_cell hbW h4
    have kb := hB0.cell 0
    simp only [List.getElem?_toArray, List.getElem?_cons_zero] at kb
    have hP0 := HP.out.below hbW
    have hR0 := HR.out.below hbW
    have hS0 := (D3.out.fr (S := No) (Fr.of_below hbW) (fun _ _ _ => id))
    have hsz := hbW.size
    have HB := Lib.hid (And.intro hbW (And.intro hB0 hB1))
    have HP0 := Lib.hid hP0
    have HR0 := Lib.hid hR0
    have HS0 := Lib.hid hS0
    clear hW0 h1 h4 c0 hP0 hR0 hS0 hbW hB0 hB1 hf fn
    have hcw0 := conv_str (w := W0.drew) (c := (nv i).c) HS0.out.2.2.1 (fun e => by omega)
    have e256 := HS0.out.2.1
    rw [e256]
    refine wpIn_wide.2 ?_
    go_cut [61] from 29 to 61 (fun v wx => v = .bool false ∧ Below W0.heap.size W0 wx)
    case first =>
      refine wp_region_noPanic ?_
      refine wp_region_held_drew (S := (fun w' => w'.cell? ⟨w.heap.size, 0, none⟩ = some (.pointer (some ⟨h, 0, none⟩)) ∧ w'.cell? ⟨h, 1, none⟩ = some (.slice (some ⟨gn, 0, none⟩) s.n cn) ∧ w'.cell? ⟨h, 4, none⟩ = some (.int .i64 s.count) ∧ (convert 31 9 (.slice (nv i).a 256 (nv i).c)).run Try.prog w' = .ok (.string (bstr (s.now i))) w')) (by kernel_rfl) ?_ (fun hHeld => ?_)
      · exact ⟨kb, k1, k4, hcw0⟩
      refine wpAnyH_take (i := 0) (v := ?_) (by simp only [List.getElem?_toArray, List.getElem?_cons_zero, List.getElem?_cons_succ]; rfl) (by kernel_rfl) (by kernel_rfl) (by kernel_rfl) (fun _ _ _ h => h) (Or.inl ⟨by rfl, ?_⟩) (by assumption) ?_
      rotate_left
      · intro w hSw; (try dsimp only at hSw); go_simp; try (with_reducible rfl)
      try simp only [Act.put, List.setIfInBounds_toArray, List.set_cons_zero, List.set_cons_succ]
      refine wpAnyH_take (i := 2) (v := ?_) (by simp only [List.getElem?_toArray, List.getElem?_cons_zero, List.getElem?_cons_succ]; rfl) (by kernel_rfl) (by kernel_rfl) (by kernel_rfl) (fun _ _ _ h => h) (Or.inl ⟨by rfl, ?_⟩) (by assumption) ?_
      rotate_left
      · intro w hSw; (try dsimp only at hSw); go_simp; try (with_reducible rfl)
      try simp only [Act.put, List.setIfInBounds_toArray, List.set_cons_zero, List.set_cons_succ]
      refine wpAnyH_take (i := 3) (v := ?_) (by simp only [List.getElem?_toArray, List.getElem?_cons_zero, List.getElem?_cons_succ]; rfl) (by kernel_rfl) (by kernel_rfl) (by kernel_rfl) (fun _ _ _ h => h) (Or.inl ⟨by rfl, ?_⟩) (by assumption) ?_
      rotate_left
      · intro w hSw; (try dsimp only at hSw); go_simp; try (with_reducible rfl)
      try simp only [Act.put, List.setIfInBounds_toArray, List.set_cons_zero, List.set_cons_succ]
      refine wpAnyH_take (i := 4) (v := ?_) (by simp only [List.getElem?_toArray, List.getElem?_cons_zero, List.getElem?_cons_succ]; rfl) (by kernel_rfl) (by kernel_rfl) (by kernel_rfl) (fun _ _ _ h => h) (Or.inl ⟨by rfl, ?_⟩) (by assumption) ?_
      rotate_left
      · intro w hSw; (try dsimp only at hSw); go_simp; try (with_reducible rfl)
      try simp only [Act.put, List.setIfInBounds_toArray, List.set_cons_zero, List.set_cons_succ]
      refine wpAnyH_take (i := 5) (v := ?_) (by simp only [List.getElem?_toArray, List.getElem?_cons_zero, List.getElem?_cons_succ]; rfl) (by kernel_rfl) (by kernel_rfl) (by kernel_rfl) (fun _ _ _ h => h) (Or.inl ⟨by rfl, ?_⟩) (by assumption) ?_
      rotate_left
      · intro w hSw; (try dsimp only at hSw); go_simp; try (with_reducible rfl)
      try simp only [Act.put, List.setIfInBounds_toArray, List.set_cons_zero, List.set_cons_succ]
      refine wpAnyH_take (i := 6) (v := ?_) (by simp only [List.getElem?_toArray, List.getElem?_cons_zero, List.getElem?_cons_succ]; rfl) (by kernel_rfl) (by kernel_rfl) (by kernel_rfl) (fun _ _ _ h => h) (Or.inl ⟨by rfl, ?_⟩) (by assumption) ?_
      rotate_left
      · intro w hSw; (try dsimp only at hSw); go_simp; try (with_reducible rfl)
      try simp only [Act.put, List.setIfInBounds_toArray, List.set_cons_zero, List.set_cons_succ]
      refine wpAnyH_ready (rs := [1]) (by kernel_rfl) (by simp) (AllReadyH.cons (by simp only [List.getElem?_toArray, List.getElem?_cons_zero, List.getElem?_cons_succ]; rfl) (fun K hK => ?_) AllReadyH.nil)
      go_simp
      go_at_call 24
      refine (sectors_any (w := W0.drew) HP0.out).mono ?_
      rintro e w' ⟨rfl, rfl⟩
      try go_wp2_with fail
      refine hK.out _ _ ?_ (fun hHeld => ?_)
      · exact ⟨kb, k1, k4, hcw0⟩
      clear hK K
      try simp only [Act.put, List.setIfInBounds_toArray, List.set_cons_zero, List.set_cons_succ]
      refine wpAnyH_take (i := 7) (v := ?_) (by simp only [List.getElem?_toArray, List.getElem?_cons_zero, List.getElem?_cons_succ]; rfl) (by kernel_rfl) (by kernel_rfl) (by kernel_rfl) (fun _ _ _ h => h) (Or.inl ⟨by rfl, ?_⟩) (by assumption) ?_
      rotate_left
      · intro w hSw; (try dsimp only at hSw); go_simp; try (with_reducible rfl)
      try simp only [Act.put, List.setIfInBounds_toArray, List.set_cons_zero, List.set_cons_succ]
      refine wpAnyH_take (i := 8) (v := ?_) (by simp only [List.getElem?_toArray, List.getElem?_cons_zero, List.getElem?_cons_succ]; rfl) (by kernel_rfl) (by kernel_rfl) (by kernel_rfl) (fun _ _ _ h => h) (Or.inl ⟨by rfl, ?_⟩) (by assumption) ?_
      rotate_left
      · intro w hSw; (try dsimp only at hSw); go_simp; try (with_reducible rfl)
      try simp only [Act.put, List.setIfInBounds_toArray, List.set_cons_zero, List.set_cons_succ]
      refine wpAnyH_take (i := 9) (v := ?_) (by simp only [List.getElem?_toArray, List.getElem?_cons_zero, List.getElem?_cons_succ]; rfl) (by kernel_rfl) (by kernel_rfl) (by kernel_rfl) (fun _ _ _ h => h) (Or.inl ⟨by rfl, ?_⟩) (by assumption) ?_
      rotate_left
      · intro w hSw; (try dsimp only at hSw); go_simp; try (with_reducible rfl)
      try simp only [Act.put, List.setIfInBounds_toArray, List.set_cons_zero, List.set_cons_succ]
      refine wpAnyH_take (i := 10) (v := ?_) (by simp only [List.getElem?_toArray, List.getElem?_cons_zero, List.getElem?_cons_succ]; rfl) (by kernel_rfl) (by kernel_rfl) (by kernel_rfl) (fun _ _ _ h => h) (Or.inl ⟨by rfl, ?_⟩) (by assumption) ?_
      rotate_left
      · intro w hSw; (try dsimp only at hSw); go_simp; try (with_reducible rfl)
      try simp only [Act.put, List.setIfInBounds_toArray, List.set_cons_zero, List.set_cons_succ]
      refine wpAnyH_take (i := 13) (v := ?_) (by simp only [List.getElem?_toArray, List.getElem?_cons_zero, List.getElem?_cons_succ]; rfl) (by kernel_rfl) (by kernel_rfl) (by kernel_rfl) (fun _ _ _ h => h) (Or.inl ⟨by rfl, ?_⟩) (by assumption) ?_
      rotate_left
      · intro w hSw; (try dsimp only at hSw); go_simp; try (with_reducible rfl)
      try simp only [Act.put, List.setIfInBounds_toArray, List.set_cons_zero, List.set_cons_succ]
      refine wpAnyH_take (i := 14) (v := ?_) (by simp only [List.getElem?_toArray, List.getElem?_cons_zero, List.getElem?_cons_succ]; rfl) (by kernel_rfl) (by kernel_rfl) (by kernel_rfl) (fun _ _ _ h => h) (Or.inl ⟨by rfl, ?_⟩) (by assumption) ?_
      rotate_left
      · intro w hSw; (try dsimp only at hSw); go_simp; try (with_reducible rfl)
      try simp only [Act.put, List.setIfInBounds_toArray, List.set_cons_zero, List.set_cons_succ]
      refine wpAnyH_ready (rs := [11]) (by kernel_rfl) (by simp) (AllReadyH.cons (by simp only [List.getElem?_toArray, List.getElem?_cons_zero, List.getElem?_cons_succ]; rfl) (fun K hK => ?_) AllReadyH.nil)
      go_simp
      go_at_call 25
      refine (read_in (w := W0.drew) HP0.out i (by omega)).mono ?_
      rintro e w1 ⟨a', c', rfl, hBy, -, hb1⟩
      have hb1 : Below W0.heap.size W0 w1 := ⟨hb1.os, hb1.tape, hb1.output, hb1.size, hb1.block⟩
      have kb' := below_cell hb1 kb
      have k1' := below_cell hb1 k1
      have k4' := below_cell hb1 k4
      have hcv := conv_str (c := c') hBy (fun e => by omega)
      have hcw := conv_str (w := w1) (c := (nv i).c) ((HS0.out.2.2.1).below hb1) (fun e => by omega)
      have HP1 := Lib.hid (HP0.out.below hb1)
      have HR1 := Lib.hid (HR0.out.below hb1)
      try go_wp2_with fail
      refine hK.out _ _ ?_ (fun hHeld => ?_)
      · exact ⟨kb', k1', k4', hcw⟩
      clear hK K
      try simp only [Act.put, List.setIfInBounds_toArray, List.set_cons_zero, List.set_cons_succ]
      refine wpAnyH_ready (rs := [12]) (by kernel_rfl) (by simp) (AllReadyH.cons (by simp only [List.getElem?_toArray, List.getElem?_cons_zero, List.getElem?_cons_succ]; rfl) (fun K hK => ?_) AllReadyH.nil)
      go_simp
      refine hK.out _ _ ?_ (fun hHeld => ?_)
      · exact ⟨kb', k1', k4', hcw⟩
      clear hK K
      try simp only [Act.put, List.setIfInBounds_toArray, List.set_cons_zero, List.set_cons_succ]
      refine wpAnyH_take (i := 15) (v := ?_) (by simp only [List.getElem?_toArray, List.getElem?_cons_zero, List.getElem?_cons_succ]; rfl) (by kernel_rfl) (by kernel_rfl) (by kernel_rfl) (fun _ _ _ h => h) (Or.inl ⟨by rfl, ?_⟩) (by assumption) ?_
      rotate_left
      · intro w hSw; (try dsimp only at hSw); go_simp; try (with_reducible rfl)
      try simp only [Act.put, List.setIfInBounds_toArray, List.set_cons_zero, List.set_cons_succ]
      refine wpAnyH_take (i := 16) (v := ?_) (by simp only [List.getElem?_toArray, List.getElem?_cons_zero, List.getElem?_cons_succ]; rfl) (by kernel_rfl) (by kernel_rfl) (by kernel_rfl) (fun _ _ _ h => h) (Or.inl ⟨by rfl, ?_⟩) (by assumption) ?_
      rotate_left
      · intro w hSw; (try dsimp only at hSw); go_simp; try (with_reducible rfl)
      try simp only [Act.put, List.setIfInBounds_toArray, List.set_cons_zero, List.set_cons_succ]
      refine wpAnyH_take (i := 17) (v := ?_) (by simp only [List.getElem?_toArray, List.getElem?_cons_zero, List.getElem?_cons_succ]; rfl) (by kernel_rfl) (by kernel_rfl) (by kernel_rfl) (fun _ _ _ h => h) (Or.inl ⟨by rfl, ?_⟩) (by assumption) ?_
      rotate_left
      · intro w hSw; (try dsimp only at hSw); go_simp; try (with_reducible rfl)
      try simp only [Act.put, List.setIfInBounds_toArray, List.set_cons_zero, List.set_cons_succ]
      refine wpAnyH_take (i := 18) (v := ?_) (by simp only [List.getElem?_toArray, List.getElem?_cons_zero, List.getElem?_cons_succ]; rfl) (by kernel_rfl) (by kernel_rfl) (by kernel_rfl) (fun _ _ _ h => h) (Or.inl ⟨by rfl, ?_⟩) (by assumption) ?_
      rotate_left
      · intro w hSw; (try dsimp only at hSw); go_simp; try (with_reducible rfl)
      try simp only [Act.put, List.setIfInBounds_toArray, List.set_cons_zero, List.set_cons_succ]
      refine wpAnyH_take (i := 20) (v := ?_) (by simp only [List.getElem?_toArray, List.getElem?_cons_zero, List.getElem?_cons_succ]; rfl) (by kernel_rfl) (by kernel_rfl) (by kernel_rfl) (fun _ _ _ h => h) (Or.inl ⟨by rfl, ?_⟩) (by assumption) ?_
      rotate_left
      · intro w hSw; (try dsimp only at hSw); go_simp; try (with_reducible rfl)
      try simp only [Act.put, List.setIfInBounds_toArray, List.set_cons_zero, List.set_cons_succ]
      refine wpAnyH_ready (rs := [19]) (by kernel_rfl) (by simp) (AllReadyH.cons (by simp only [List.getElem?_toArray, List.getElem?_cons_zero, List.getElem?_cons_succ]; rfl) (fun K hK => ?_) AllReadyH.nil)
      go_simp
      go_at_call 26
      refine (dead_any (w := w1) HP1.out).mono ?_
      rintro e w' ⟨rfl, rfl⟩
      try go_wp2_with fail
      refine hK.out _ _ ?_ (fun hHeld => ?_)
      · exact ⟨kb', k1', k4', hcw⟩
      clear hK K
      try simp only [Act.put, List.setIfInBounds_toArray, List.set_cons_zero, List.set_cons_succ]
      refine wpAnyH_ready (rs := [21]) (by kernel_rfl) (by simp) (AllReadyH.cons (by simp only [List.getElem?_toArray, List.getElem?_cons_zero, List.getElem?_cons_succ]; rfl) (fun K hK => ?_) AllReadyH.nil)
      go_simp
      go_at_call 32
      refine (rdead_any (w := w1) HR1.out).mono ?_
      rintro e w' ⟨rfl, rfl⟩
      try go_wp2_with fail
      refine hK.out _ _ ?_ (fun hHeld => ?_)
      · exact ⟨kb', k1', k4', hcw⟩
      clear hK K
      try simp only [Act.put, List.setIfInBounds_toArray, List.set_cons_zero, List.set_cons_succ]
      refine wpAnyH_take (i := 22) (v := ?_) (by simp only [List.getElem?_toArray, List.getElem?_cons_zero, List.getElem?_cons_succ]; rfl) (by kernel_rfl) (by kernel_rfl) (by kernel_rfl) (fun _ _ _ h => h) (Or.inl ⟨by rfl, ?_⟩) (by assumption) ?_
      rotate_left
      · intro w hSw; (try dsimp only at hSw); go_simp; try (with_reducible rfl)
      try simp only [Act.put, List.setIfInBounds_toArray, List.set_cons_zero, List.set_cons_succ]
      refine wpAnyH_take (i := 23) (v := ?_) (by simp only [List.getElem?_toArray, List.getElem?_cons_zero, List.getElem?_cons_succ]; rfl) (by kernel_rfl) (by kernel_rfl) (by kernel_rfl) (fun _ _ _ h => h) (Or.inl ⟨by rfl, ?_⟩) (by assumption) ?_
      rotate_left
      · intro w hSw; (try dsimp only at hSw); go_simp; try (with_reducible rfl)
      try simp only [Act.put, List.setIfInBounds_toArray, List.set_cons_zero, List.set_cons_succ]
      refine wpAnyH_take (i := 24) (v := ?_) (by simp only [List.getElem?_toArray, List.getElem?_cons_zero, List.getElem?_cons_succ]; rfl) (by kernel_rfl) (by kernel_rfl) (by kernel_rfl) (fun _ _ _ h => h) (Or.inl ⟨by rfl, ?_⟩) (by assumption) ?_
      rotate_left
      · intro w hSw; (try dsimp only at hSw); go_simp; try (with_reducible rfl)
      try simp only [Act.put, List.setIfInBounds_toArray, List.set_cons_zero, List.set_cons_succ]
      refine wpAnyH_take (i := 25) (v := ?_) (by simp only [List.getElem?_toArray, List.getElem?_cons_zero, List.getElem?_cons_succ]; rfl) (by kernel_rfl) (by kernel_rfl) (by kernel_rfl) (fun _ _ _ h => h) (Or.inl ⟨by rfl, ?_⟩) (by assumption) ?_
      rotate_left
      · intro w hSw; (try dsimp only at hSw); go_simp; try (with_reducible rfl)
      try simp only [Act.put, List.setIfInBounds_toArray, List.set_cons_zero, List.set_cons_succ]
      refine wpAnyH_take (i := 27) (v := ?_) (by simp only [List.getElem?_toArray, List.getElem?_cons_zero, List.getElem?_cons_succ]; rfl) (by kernel_rfl) (by kernel_rfl) (by kernel_rfl) (fun _ _ _ h => h) (Or.inl ⟨by rfl, ?_⟩) (by assumption) ?_
      rotate_left
      · intro w hSw; (try dsimp only at hSw); go_simp; try (with_reducible rfl)
      try simp only [Act.put, List.setIfInBounds_toArray, List.set_cons_zero, List.set_cons_succ]
      refine wpAnyH_take (i := 28) (v := ?_) (by simp only [List.getElem?_toArray, List.getElem?_cons_zero, List.getElem?_cons_succ]; rfl) (by kernel_rfl) (by kernel_rfl) (by kernel_rfl) (fun _ _ _ h => h) (Or.inl ⟨by rfl, ?_⟩) (by assumption) ?_
      rotate_left
      · intro w hSw; (try dsimp only at hSw); go_simp; try (with_reducible rfl)
      try simp only [Act.put, List.setIfInBounds_toArray, List.set_cons_zero, List.set_cons_succ]
      refine wpAnyH_take (i := 29) (v := ?_) (by simp only [List.getElem?_toArray, List.getElem?_cons_zero, List.getElem?_cons_succ]; rfl) (by kernel_rfl) (by kernel_rfl) (by kernel_rfl) (fun _ _ _ h => h) (Or.inl ⟨by rfl, ?_⟩) (by assumption) ?_
      rotate_left
      · intro w hSw; (try dsimp only at hSw); go_simp; try (with_reducible rfl)
      try simp only [Act.put, List.setIfInBounds_toArray, List.set_cons_zero, List.set_cons_succ]
      refine wpAnyH_take (i := 30) (v := ?_) (by simp only [List.getElem?_toArray, List.getElem?_cons_zero, List.getElem?_cons_succ]; rfl) (by kernel_rfl) (by kernel_rfl) (by kernel_rfl) (fun _ _ _ h => h) (Or.inl ⟨by rfl, ?_⟩) (by assumption) ?_
      rotate_left
      · intro w hSw; (try dsimp only at hSw); go_simp; try (with_reducible rfl)
      try simp only [Act.put, List.setIfInBounds_toArray, List.set_cons_zero, List.set_cons_succ]
      refine wpAnyH_ready (rs := [26]) (by kernel_rfl) (by simp) (AllReadyH.cons (by simp only [List.getElem?_toArray, List.getElem?_cons_zero, List.getElem?_cons_succ]; rfl) (fun K hK => ?_) AllReadyH.nil)
      go_simp
      go_at_call 27
      refine (count_any (w := w1) HP1.out).mono ?_
      rintro e w' ⟨rfl, rfl⟩
      try go_wp2_with fail
      refine hK.out _ _ ?_ (fun hHeld => ?_)
      · exact ⟨kb', k1', k4', hcw⟩
      clear hK K
      try simp only [Act.put, List.setIfInBounds_toArray, List.set_cons_zero, List.set_cons_succ]
      refine wpAnyH_take (i := 31) (v := ?_) (by simp only [List.getElem?_toArray, List.getElem?_cons_zero, List.getElem?_cons_succ]; rfl) (by kernel_rfl) (by kernel_rfl) (by kernel_rfl) (fun _ _ _ h => h) (Or.inl ⟨by rfl, ?_⟩) (by assumption) ?_
      rotate_left
      · intro w hSw; (try dsimp only at hSw); go_simp; try (with_reducible rfl)
      try simp only [Act.put, List.setIfInBounds_toArray, List.set_cons_zero, List.set_cons_succ]
      refine wpAnyH_take (i := 32) (v := ?_) (by simp only [List.getElem?_toArray, List.getElem?_cons_zero, List.getElem?_cons_succ]; rfl) (by kernel_rfl) (by kernel_rfl) (by kernel_rfl) (fun _ _ _ h => h) (Or.inl ⟨by rfl, ?_⟩) (by assumption) ?_
      rotate_left
      · intro w hSw; (try dsimp only at hSw); go_simp; try (with_reducible rfl)
      try simp only [Act.put, List.setIfInBounds_toArray, List.set_cons_zero, List.set_cons_succ]
      refine wpAnyH_done (by kernel_rfl) ?_ _
      refine NoPanic.normal ?_
      go_wp2_with fail
      go_meet
      exact ⟨rfl, hb1⟩
  case' neg =>
    rcases Int.lt_or_le i 0 with hi0 | hi0
    case' inr =>
      have hi1 : (s.n : Int) ≤ i := by omega
  case' neg.inl | neg.inr =>
    clear hi
    gi_wp2_with fail
    obtain ⟨W0, hW0⟩ : ∃ W0, W0 = (w.alloc (.cells #[.pointer (some ⟨h, 0, none⟩)] 29)).alloc (.cells #[.bool false] 4) := ⟨_, rfl⟩
    rw [← hW0]
    obtain ⟨hbW, hB0, hB1⟩ := same_made hW0
    have k1 := below_cell hbW h1
    have k4 := below_cell hbW h4
    have kb := hB0.cell 0
    simp only [List.getElem?_toArray, List.getElem?_cons_zero] at kb
    have hP0 := HP.out.below hbW
    have hR0 := HR.out.below hbW
    have hsz := hbW.size
    have HB := Lib.hid (And.intro hbW (And.intro hB0 hB1))
    have HP0 := Lib.hid hP0
    have HR0 := Lib.hid hR0
    have HP1 := Lib.hid (hP0.below (Below.refl _ W0).drew)
    have HR1 := Lib.hid (hR0.below (Below.refl _ W0).drew)
    have hb1 : Below W0.heap.size W0 W0.drew := (Below.refl _ W0).drew
    clear hW0 h1 h4 hP0 hR0 hbW hB0 hB1 hf
    have hcz : ∀ W : World, (convert 31 9 (.slice none 0 0)).run Try.prog W = .ok (.string (bstr [])) W := fun W => conv_str (c := 0) (Bytes.nil W none) (fun _ => rfl)
    refine wpIn_wide.2 ?_
    go_cut [61] from 29 to 61 (fun v wx => v = .bool false ∧ Below W0.heap.size W0 wx)
    case first =>
      go_region_held3 (fun w' => w'.cell? ⟨w.heap.size, 0, none⟩ = some (.pointer (some ⟨h, 0, none⟩)) ∧ w'.cell? ⟨h, 1, none⟩ = some (.slice (some ⟨gn, 0, none⟩) s.n cn) ∧ w'.cell? ⟨h, 4, none⟩ = some (.int .i64 s.count))
        (first | exact ⟨kb, k1, k4⟩ | exact ⟨kb', k1', k4'⟩)
        (first
          | (go_at_call 24; refine (sectors_any (w := W0.drew) HP0.out).mono ?_; rintro e w' ⟨rfl, rfl⟩)
          | (go_at_call 25; refine (read_out (w := W0.drew) HP0.out i (by omega)).mono ?_; rintro e w' ⟨rfl, rfl⟩)
          | (go_at_call 26; refine (dead_any (w := W0.drew) HP1.out).mono ?_; rintro e w' ⟨rfl, rfl⟩)
          | (go_at_call 32; refine (rdead_any (w := W0.drew) HR1.out).mono ?_; rintro e w' ⟨rfl, rfl⟩)
          | (go_at_call 27; refine (count_any (w := W0.drew) HP1.out).mono ?_; rintro e w' ⟨rfl, rfl⟩))
      all_goals
        go_wp2_with fail
        go_meet
        exact ⟨rfl, hb1⟩
  case neg.inl =>
    obtain ⟨rfl, hb1⟩ := hcut
    obtain ⟨hbW, hB0, hB1⟩ := HB.out
    have hbw : Below w.heap.size w wc := hbW.trans (hb1.mono hsz)
    have hB0' := hB0.below hb1 hB0.lt
    have hB1' := hB1.below hb1 hB1.lt
    have hPc := HP0.out.below hb1
    have hRc := HR0.out.below hb1
    have hq := eqlNil48
    clear hbW hB0 hB1 HB HP0 HR0 hb1
    have Hw := Lib.hid hbw
    have HB0 := Lib.hid hB0'
    have HB1 := Lib.hid hB1'
    have HPc := Lib.hid hPc
    have HRc := Lib.hid hRc
    clear hbw hB0' hB1' hPc hRc
    gi_wp2_with (refine ⟨trivial, ?_⟩; gi_at_call 23; refine (callsIn_wide.2 (dirty_any _ _)).mono ?_; rintro e w5 ⟨rfl, rfl⟩)
    have hba := ((Below.refl wc.heap.size wc).alloc (Nat.le_refl _) (.cells #[.pointer (some ⟨g, 0, none⟩)] 27)).alloc (by simp) (.cells #[.int .i64 (-1)] 3)
    have hbb : Blk ((wc.alloc (.cells #[.pointer (some ⟨g, 0, none⟩)] 27)).alloc (.cells #[.int .i64 (-1)] 3)) wc.heap.size 27 #[.pointer (some ⟨g, 0, none⟩)] := heap_alloc2_old wc _ _
    have hbk : Blk ((wc.alloc (.cells #[.pointer (some ⟨g, 0, none⟩)] 27)).alloc (.cells #[.int .i64 (-1)] 3)) (wc.heap.size + 1) 3 #[.int .i64 (-1)] := heap_alloc2_new wc _ _
    have hszc := Hw.out.size
    refine wpIn_rangeFunc_ownF rfl (by omega) (gf := 34) (lb := #[.pointer (some ⟨wc.heap.size, 0, none⟩)]) rfl trivial enters34
      (dirty_stops (by omega) hbb (HPc.out.below hba) hn) (fun h k => Fr.trans h k) (fun W l o o' _ h hc _ => ksB W l o o' h hc) (Below.refl _ _) (fun _ => rfl)
      (SI w h gs gn gw s (wc.heap.size + 1)) (fun _ pre _ => ¬ pre <+: s.wetsTo s.n)
      (fun xs W W' row hi hg hr => hi.nc (by simp; omega) hg hr)
      (fun _ _ _ _ _ hs _ _ => hs) ⟨Hw.out.trans (hba.mono Hw.out.size), HB0.out.below hba HB0.out.lt, HB1.out.below hba HB1.out.lt, HRc.out.below hba, 0, by omega, rfl, hbk⟩ ?a1 ?assign ?body ?done ?stop
    case assign =>
      intro l x W K hK
      gi_wp2
      exact hK
    case body =>
      rintro l pre x W ⟨hb, b0, b1, hr, m, hm, rfl, hk⟩ hlen
      obtain ⟨cs1, cn1, m1, m2, hh1⟩ := hr.head
      obtain ⟨-, -, y2, -, -, -⟩ := hh1.facts
      have kb0 := b0.cell 0
      have kk0 := hk.cell 0
      have kf0 := hk.frozen 0
      simp only [List.getElem?_toArray, List.getElem?_cons_zero] at kb0 kk0
      obtain ⟨b, hbm⟩ : ∃ b : Int, b = (m : Int) - 1 := ⟨_, rfl⟩
      rw [← hbm] at kk0
      have hlk := hk.lt
      have hI := Lib.hid (show SI w h gs gn gw s (wc.heap.size + 1) (s.wetsTo m) W from ⟨hb, b0, b1, hr, m, hm, rfl, hk⟩)
      clear hb b0 b1 hr hh1 hk hba hbb hbk hq
      gi_wp2
      have hin : ∀ o, W.heap[wc.heap.size + 1]? = some o → On (wc.heap.size + 1) 3 (wc.heap.size + 1) o := fun o ho => by
        rw [show W.heap[wc.heap.size + 1]? = _ from (hI.out.2.2.2.2.choose_spec.2.2 : Blk W _ 3 _)] at ho
        cases ho
        exact on_mk _ _
      have hF0 : Fr (On (wc.heap.size + 1) 3) W (W.setCell ⟨wc.heap.size + 1, 0, none⟩ (.int .i64 (m : Int))) := (Fr.refl _ W).setIn hin _
      have hk0 : Blk (W.setCell ⟨wc.heap.size + 1, 0, none⟩ (.int .i64 (m : Int))) (wc.heap.size + 1) 3 #[.int .i64 (m : Int)] := by
        have := (hI.out.2.2.2.2.choose_spec.2.2 : Blk W _ 3 _).set_ 0 (.int .i64 (m : Int))
        simpa using this
      have HF0 := Lib.hid (And.intro hF0 hk0)
      clear hF0 hk0 hin kk0 kf0 kb0 y2
      gi_loopw [] (fun wr => ∃ k : Nat, m ≤ k ∧ k ≤ s.n ∧ s.wetsTo k = s.wetsTo m ∧ KeepsOthers W wr ∧ Fr (On (wc.heap.size + 1) 3) W wr ∧ Blk wr (wc.heap.size + 1) 3 #[.int .i64 (k : Int)]) (fun wr => s.n - boxNat wr (wc.heap.size + 1))
      case atStart => exact ⟨m, by omega, hm, rfl, KeepsOthers.setCell _ _ _, HF0.out.1, HF0.out.2⟩
      case round =>
        obtain ⟨k, hmk, hkn, hwk, hko, hfr, hkb⟩ := hrel
        have hr2 := hI.out.2.2.2.1.fr hfr (fun _ _ => on_not (by decide)) (fun _ _ => on_not (by decide)) (fun _ _ => on_not (by decide)) (fun _ _ => on_not (by decide)) (fun _ _ _ => on_not (by decide))
        have b2 := hI.out.2.1.fr hfr (on_not (by decide))
        have b3 := hI.out.2.2.1.fr hfr (on_not (by decide))
        have hin : ∀ o, wr.heap[wc.heap.size + 1]? = some o → On (wc.heap.size + 1) 3 (wc.heap.size + 1) o := fun o ho => by
          rw [show wr.heap[wc.heap.size + 1]? = _ from hkb] at ho
          cases ho
          exact on_mk _ _
        have hns := round_next hin hkb hko hfr
        have Hns := Lib.hid hns
        have hbw := hI.out.1.trans (below_of_fr hfr (fun k o (x : On (wc.heap.size + 1) 3 k o) => show w.heap.size ≤ k by have := x.1; omega) hI.out.1.size)
        obtain ⟨cs1, cn1, m1, m2, hh1⟩ := hr2.head
        obtain ⟨-, -, y2, -, -, -⟩ := hh1.facts
        have kb0 := b2.cell 0
        have kk0 := hkb.cell 0
        have kf0 := hkb.frozen 0
        simp only [List.getElem?_toArray, List.getElem?_cons_zero] at kb0 kk0
        have hlk := hkb.lt
        by_cases hlt : k < s.n
        · obtain ⟨v0, hlw, fw⟩ := hr2.wets.cell hlt
          cases hwt : s.wet k
          · rw [hwt] at v0
            have hdry := wetsTo_dry hwt
            have Hd := Lib.hid hdry
            clear hwt hdry hr2 b2 b3 hkb hko hfr hns hin hh1 hbw
            gi_wp2
            refine region_quiet_round rfl (by kernel_rfl) (by kernel_rfl) (by kernel_rfl) ?_
            repeat (gi_big_quiet_step (fail))
            refine wpQuietIn_nil ?_
            intro _ hw'
            obtain ⟨nq, hw''⟩ := hw'
            subst hw''
            gi_wp2
            exact ⟨⟨k + 1, by omega, by omega, Hd.out.trans hwk, (Hns.out.2 nq).1, (Hns.out.2 nq).2.1, (Hns.out.2 nq).2.2.1⟩, by rw [Hns.out.1, (Hns.out.2 nq).2.2.2]; omega⟩
          · rw [hwt] at v0
            have hin2 : SI w h gs gn gw s (wc.heap.size + 1) (s.wetsTo m ++ [k]) wr := ⟨hbw, b2, b3, hr2, k + 1, by omega, by
              rw [wetsTo_next hwt, hwk], by
              rw [show ((k + 1 : Nat) : Int) - 1 = k by omega]; exact hkb⟩
            have HI2 := Lib.hid hin2
            have hnn := fun x (hx : x ≠ k) => not_next (s := s) (n := s.n) hlt hwt hx
            have Hnn := Lib.hid hnn
            have Hko := Lib.hid hko
            have Hfr := Lib.hid hfr
            clear hwt hr2 b2 hkb hko hfr hns hin hh1 hbw hin2 hnn
            gi_wp2
            refine region_quiet_round rfl (by kernel_rfl) (by kernel_rfl) (by kernel_rfl) ?_
            repeat (gi_big_quiet_step (fail))
            refine wpQuietIn_nil ?_
            intro _ hw'
            obtain ⟨nq, hw''⟩ := hw'
            subst hw''
            have kb0' := cell_drewN kb0 nq
            have kk0' := cell_drewN kk0 nq
            have y2' := cell_drewN y2 nq
            have HI2' := Lib.hid (SI.drewN HI2.out nq)
            have Hko' := Lib.hid (Hko.out.trans (ko_drewN wr nq))
            have Hfr' := Lib.hid (Hfr.out.drewN nq)
            have hlk' : wc.heap.size + 1 < (wr.drewN nq).heap.size := hlk
            have b3' := Lib.hid (b3.drewN nq)
            gi_wp2
            generalize wr.drewN nq = W1 at kb0' kk0' y2' HI2' Hko' Hfr' hlk' b3' ⊢
            clear kb0 kk0 y2 HI2 Hko Hfr kf0 v0 hlk b3
            have hdg : decide ((s.n : Int) ≤ (k : Int)) = false := by simp; omega
            have hdg2 : decide (s.n ≤ k) = false := by simp; omega
            by_cases hxk : x = k
            · subst hxk
              refine region_quiet_round rfl (by kernel_rfl) (by kernel_rfl) (by kernel_rfl) ?_
              repeat (gi_big_quiet_step (fail))
              refine wpQuietIn_nil ?_
              intro _ hw'
              obtain ⟨nq, hw''⟩ := hw'
              subst hw''
              gi_wp2
              exact ⟨Hko'.out.trans (ko_drewN W1 nq), (Hfr'.out.drewN nq).mono fun k o h => .inl (by obtain ⟨_, c, t, f, e, ht⟩ := h; exact ⟨c, t, f, e, by simp at ht; simp [ht]⟩), HI2'.out.drewN nq⟩
            · have hxi : ((x : Int) != k) = true := by simp; omega
              refine region_quiet_round rfl (by kernel_rfl) (by kernel_rfl) (by kernel_rfl) ?_
              repeat (gi_big_quiet_step (fail))
              refine wpQuietIn_nil ?_
              intro _ hw'
              obtain ⟨nq, hw''⟩ := hw'
              subst hw''
              have kf3 := (b3'.out.drewN nq).frozen 0
              have kc3 := (b3'.out.drewN nq).cell 0
              have hl3 := b3'.out.lt
              gi_wp2
              exact ⟨(Hko'.out.trans (ko_drewN W1 nq)).trans (KeepsOthers.setCell _ _ _), hwk ▸ Hnn.out x hxk⟩
        · have hke : k = s.n := by omega
          subst hke
          have hne : ¬ s.wetsTo m ++ [x] <+: s.wetsTo s.n := by rw [← hwk]; exact not_end
          have Hnn := Lib.hid hne
          have Hko := Lib.hid hko
          have b3 := Lib.hid b3
          have hdg : decide (s.n < s.n) = false := by simp
          have hdg2 : decide (s.n ≤ s.n) = true := by simp
          clear hr2 b2 hkb hko hfr hns hin hh1 hbw hne hwk
          gi_wp2
          refine region_quiet_round rfl (by kernel_rfl) (by kernel_rfl) (by kernel_rfl) ?_
          repeat (gi_big_quiet_step (fail))
          refine wpQuietIn_nil ?_
          intro _ hw'
          obtain ⟨nq, hw''⟩ := hw'
          subst hw''
          have kb0' := cell_drewN kb0 nq
          have kk0' := cell_drewN kk0 nq
          have y2' := cell_drewN y2 nq
          have Hko' := Lib.hid (Hko.out.trans (ko_drewN wr nq))
          have hlk' : wc.heap.size + 1 < (wr.drewN nq).heap.size := hlk
          have b3' := Lib.hid (b3.out.drewN nq)
          gi_wp2
          generalize wr.drewN nq = W1 at kb0' kk0' y2' Hko' hlk' b3' ⊢
          clear kb0 kk0 y2 Hko kf0 hlk b3
          refine region_quiet_round rfl (by kernel_rfl) (by kernel_rfl) (by kernel_rfl) ?_
          repeat (gi_big_quiet_step (fail))
          refine wpQuietIn_nil ?_
          intro _ hw'
          obtain ⟨nq, hw''⟩ := hw'
          subst hw''
          have kf3 := (b3'.out.drewN nq).frozen 0
          have kc3 := (b3'.out.drewN nq).cell 0
          have hl3 := b3'.out.lt
          gi_wp2
          exact ⟨(Hko'.out.trans (ko_drewN W1 nq)).trans (KeepsOthers.setCell _ _ _), Hnn.out⟩
    case done =>
      rintro D xs W hD rfl ⟨hb, b0, b1, hr, m, hm, hx, hk⟩ hDo
      have hbb : ∀ k, m ≤ k → k < s.n → s.wet k = false := fun k h1 h2 => wets_over hx h1 h2
      have kk0 := hk.cell 0
      have kf0 := hk.frozen 0
      simp only [List.getElem?_toArray, List.getElem?_cons_zero] at kk0
      obtain ⟨b, hbm⟩ : ∃ b : Int, b = (m : Int) - 1 := ⟨_, rfl⟩
      rw [← hbm] at kk0
      have hlk := hk.lt
      have hI := Lib.hid (show SI w h gs gn gw s (wc.heap.size + 1) (s.wetsTo m) W from ⟨hb, b0, b1, hr, m, hm, rfl, hk⟩)
      clear hb b0 b1 hr hk hba hq
      gi_wp2
      have hin : ∀ o, W.heap[wc.heap.size + 1]? = some o → On (wc.heap.size + 1) 3 (wc.heap.size + 1) o := fun o ho => by
        rw [show W.heap[wc.heap.size + 1]? = _ from (hI.out.2.2.2.2.choose_spec.2.2 : Blk W _ 3 _)] at ho
        cases ho
        exact on_mk _ _
      have hF0 : Fr (On (wc.heap.size + 1) 3) W (W.setCell ⟨wc.heap.size + 1, 0, none⟩ (.int .i64 (m : Int))) := (Fr.refl _ W).setIn hin _
      have hk0 : Blk (W.setCell ⟨wc.heap.size + 1, 0, none⟩ (.int .i64 (m : Int))) (wc.heap.size + 1) 3 #[.int .i64 (m : Int)] := by
        have := (hI.out.2.2.2.2.choose_spec.2.2 : Blk W _ 3 _).set_ 0 (.int .i64 (m : Int))
        simpa using this
      have HF0 := Lib.hid (And.intro hF0 hk0)
      clear hF0 hk0 hin kk0 kf0
      gi_loopw [] (fun wr => ∃ k : Nat, m ≤ k ∧ k ≤ s.n ∧ Fr (On (wc.heap.size + 1) 3) W wr ∧ Blk wr (wc.heap.size + 1) 3 #[.int .i64 (k : Int)]) (fun wr => s.n - boxNat wr (wc.heap.size + 1))
      case atStart => exact ⟨m, by omega, hm, HF0.out.1, HF0.out.2⟩
      case round =>
        obtain ⟨k, hmk, hkn, hfr, hkb⟩ := hrel
        have hr2 := hI.out.2.2.2.1.fr hfr (fun _ _ => on_not (by decide)) (fun _ _ => on_not (by decide)) (fun _ _ => on_not (by decide)) (fun _ _ => on_not (by decide)) (fun _ _ _ => on_not (by decide))
        have b2 := hI.out.2.1.fr hfr (on_not (by decide))
        have b3 := hI.out.2.2.1.fr hfr (on_not (by decide))
        have hin : ∀ o, wr.heap[wc.heap.size + 1]? = some o → On (wc.heap.size + 1) 3 (wc.heap.size + 1) o := fun o ho => by
          rw [show wr.heap[wc.heap.size + 1]? = _ from hkb] at ho
          cases ho
          exact on_mk _ _
        have hns := round_next hin hkb (KeepsOthers.refl _) (Fr.refl _ wr)
        have Hns := Lib.hid hns
        obtain ⟨cs1, cn1, m1, m2, hh1⟩ := hr2.head
        obtain ⟨-, -, y2, -, -, -⟩ := hh1.facts
        have kb0 := b2.cell 0
        have kk0 := hkb.cell 0
        have kf0 := hkb.frozen 0
        simp only [List.getElem?_toArray, List.getElem?_cons_zero] at kb0 kk0
        have hlk := hkb.lt
        have hD2 : wr.heap[D]? = some (.deferred (some [])) := hfr.block D _ hDo (fun x => by obtain ⟨_, c, t, f, e, _⟩ := x; cases e)
        have hbw := hI.out.1.trans (below_of_fr hfr (fun k o (x : On (wc.heap.size + 1) 3 k o) => show w.heap.size ≤ k by have := x.1; omega) hI.out.1.size)
        by_cases hlt : k < s.n
        · obtain ⟨v0, hlw, fw⟩ := hr2.wets.cell hlt
          rw [hbb k hmk hlt] at v0
          have Hfr := Lib.hid hfr
          clear hr2 b2 b3 hkb hfr hns hin hh1 hD2 hbw
          gi_wp2
          gi_quiet (fail)
          have kb0' := cell_drewN kb0 nq
          have kk0' := cell_drewN kk0 nq
          have y2' := cell_drewN y2 nq
          have v0' := cell_drewN v0 nq
          have kf0' : (wr.drewN nq).frozen? ⟨wc.heap.size + 1, 0, none⟩ = false := kf0
          have hlk' : wc.heap.size + 1 < (wr.drewN nq).heap.size := hlk
          have Hns' := Lib.hid (fun j => drewN_drewN wr nq j ▸ Hns.out.2 (nq + j))
          gi_wp2
          generalize wr.drewN nq = W1 at kb0' kk0' y2' v0' hlk' kf0' Hns' ⊢
          clear kb0 kk0 y2 kf0 hlk v0
          gi_quiet (fail)
          gi_wp2
          exact ⟨⟨k + 1, by omega, by omega, Hfr.out.trans (Hns'.out nq).2.1, (Hns'.out nq).2.2.1⟩, by rw [Hns.out.1, (Hns'.out nq).2.2.2]; omega⟩
        · have hke : k = s.n := by omega
          subst hke
          have hdg : decide (s.n < s.n) = false := by simp
          have b3 := Lib.hid b3
          have HD2 := Lib.hid hD2
          have Hbw := Lib.hid hbw
          clear hr2 b2 hkb hfr hns hin hh1 hD2 hbw
          gi_wp2
          gi_quiet (fail)
          have kb0' := cell_drewN kb0 nq
          have kf3 := (b3.out.drewN nq).frozen 0
          have kc3 := (b3.out.drewN nq).cell 0
          have hl3 : w.heap.size + 1 < (wr.drewN nq).heap.size := b3.out.lt
          gi_wp2
          have hD3 : ((wr.drewN nq).setCell ⟨w.heap.size + 1, 0, none⟩ (.bool true)).heap[D]? = some (.deferred (some [])) := (Below.heap_setCell _ _ _ _ (by have := Hw.out.size; simp at hD; simp; omega)).trans HD2.out
          have hB3 := (b3.out.drewN nq).set_ 0 (.bool true)
          refine ⟨by simp, .inl ⟨_, _, rfl, run_takeDeferred hD3, ?_⟩⟩
          refine ⟨_, results_bool rfl _ _ (w.heap.size + 1) true rfl (same_end hB3 (by have := Hw.out.size; simp at hD; omega)), rfl, ?_⟩
          have hbd : Below wr.heap.size wr (wr.drewN nq) := ⟨rfl, rfl, rfl, Nat.le_refl _, fun _ _ => rfl⟩
          exact ((Hbw.out.trans (hbd.mono Hbw.out.size)).setCell (p := ⟨_, _, none⟩) (by simp) _).trans (belowK_b (w := w) (Nat.le_refl _) _ D _ _ (by have := Hw.out.size; simp at hD; omega) hD3 rfl rfl)
    case stop =>
      rintro D c pre W _ h1 h2 _
      exact absurd h1 h2
  case neg.inr =>
    obtain ⟨rfl, hb1⟩ := hcut
    obtain ⟨hbW, hB0, hB1⟩ := HB.out
    have hbw : Below w.heap.size w wc := hbW.trans (hb1.mono hsz)
    have hB0' := hB0.below hb1 hB0.lt
    have hB1' := hB1.below hb1 hB1.lt
    have hPc := HP0.out.below hb1
    have hRc := HR0.out.below hb1
    have hq := eqlNil48
    clear hbW hB0 hB1 HB HP0 HR0 hb1
    have Hw := Lib.hid hbw
    have HB0 := Lib.hid hB0'
    have HB1 := Lib.hid hB1'
    have HPc := Lib.hid hPc
    have HRc := Lib.hid hRc
    clear hbw hB0' hB1' hPc hRc
    gi_wp2_with (refine ⟨trivial, ?_⟩; gi_at_call 23; refine (callsIn_wide.2 (dirty_any _ _)).mono ?_; rintro e w5 ⟨rfl, rfl⟩)
    have hba := ((Below.refl wc.heap.size wc).alloc (Nat.le_refl _) (.cells #[.pointer (some ⟨g, 0, none⟩)] 27)).alloc (by simp) (.cells #[.int .i64 (-1)] 3)
    have hbb : Blk ((wc.alloc (.cells #[.pointer (some ⟨g, 0, none⟩)] 27)).alloc (.cells #[.int .i64 (-1)] 3)) wc.heap.size 27 #[.pointer (some ⟨g, 0, none⟩)] := heap_alloc2_old wc _ _
    have hbk : Blk ((wc.alloc (.cells #[.pointer (some ⟨g, 0, none⟩)] 27)).alloc (.cells #[.int .i64 (-1)] 3)) (wc.heap.size + 1) 3 #[.int .i64 (-1)] := heap_alloc2_new wc _ _
    have hszc := Hw.out.size
    refine wpIn_rangeFunc_ownF rfl (by omega) (gf := 34) (lb := #[.pointer (some ⟨wc.heap.size, 0, none⟩)]) rfl trivial enters34
      (dirty_stops (by omega) hbb (HPc.out.below hba) hn) (fun h k => Fr.trans h k) (fun W l o o' _ h hc _ => ksB W l o o' h hc) (Below.refl _ _) (fun _ => rfl)
      (SI w h gs gn gw s (wc.heap.size + 1)) (fun _ pre _ => ¬ pre <+: s.wetsTo s.n)
      (fun xs W W' row hi hg hr => hi.nc (by simp; omega) hg hr)
      (fun _ _ _ _ _ hs _ _ => hs) ⟨Hw.out.trans (hba.mono Hw.out.size), HB0.out.below hba HB0.out.lt, HB1.out.below hba HB1.out.lt, HRc.out.below hba, 0, by omega, rfl, hbk⟩ ?a2 ?assign ?body ?done ?stop
    case assign =>
      intro l x W K hK
      gi_wp2
      exact hK
    case body =>
      rintro l pre x W ⟨hb, b0, b1, hr, m, hm, rfl, hk⟩ hlen
      obtain ⟨cs1, cn1, m1, m2, hh1⟩ := hr.head
      obtain ⟨-, -, y2, -, -, -⟩ := hh1.facts
      have kb0 := b0.cell 0
      have kk0 := hk.cell 0
      have kf0 := hk.frozen 0
      simp only [List.getElem?_toArray, List.getElem?_cons_zero] at kb0 kk0
      obtain ⟨b, hbm⟩ : ∃ b : Int, b = (m : Int) - 1 := ⟨_, rfl⟩
      rw [← hbm] at kk0
      have hlk := hk.lt
      have hI := Lib.hid (show SI w h gs gn gw s (wc.heap.size + 1) (s.wetsTo m) W from ⟨hb, b0, b1, hr, m, hm, rfl, hk⟩)
      clear hb b0 b1 hr hh1 hk hba hbb hbk hq
      gi_wp2
      have hin : ∀ o, W.heap[wc.heap.size + 1]? = some o → On (wc.heap.size + 1) 3 (wc.heap.size + 1) o := fun o ho => by
        rw [show W.heap[wc.heap.size + 1]? = _ from (hI.out.2.2.2.2.choose_spec.2.2 : Blk W _ 3 _)] at ho
        cases ho
        exact on_mk _ _
      have hF0 : Fr (On (wc.heap.size + 1) 3) W (W.setCell ⟨wc.heap.size + 1, 0, none⟩ (.int .i64 (m : Int))) := (Fr.refl _ W).setIn hin _
      have hk0 : Blk (W.setCell ⟨wc.heap.size + 1, 0, none⟩ (.int .i64 (m : Int))) (wc.heap.size + 1) 3 #[.int .i64 (m : Int)] := by
        have := (hI.out.2.2.2.2.choose_spec.2.2 : Blk W _ 3 _).set_ 0 (.int .i64 (m : Int))
        simpa using this
      have HF0 := Lib.hid (And.intro hF0 hk0)
      clear hF0 hk0 hin kk0 kf0 kb0 y2
      gi_loopw [] (fun wr => ∃ k : Nat, m ≤ k ∧ k ≤ s.n ∧ s.wetsTo k = s.wetsTo m ∧ KeepsOthers W wr ∧ Fr (On (wc.heap.size + 1) 3) W wr ∧ Blk wr (wc.heap.size + 1) 3 #[.int .i64 (k : Int)]) (fun wr => s.n - boxNat wr (wc.heap.size + 1))
      case atStart => exact ⟨m, by omega, hm, rfl, KeepsOthers.setCell _ _ _, HF0.out.1, HF0.out.2⟩
      case round =>
        obtain ⟨k, hmk, hkn, hwk, hko, hfr, hkb⟩ := hrel
        have hr2 := hI.out.2.2.2.1.fr hfr (fun _ _ => on_not (by decide)) (fun _ _ => on_not (by decide)) (fun _ _ => on_not (by decide)) (fun _ _ => on_not (by decide)) (fun _ _ _ => on_not (by decide))
        have b2 := hI.out.2.1.fr hfr (on_not (by decide))
        have b3 := hI.out.2.2.1.fr hfr (on_not (by decide))
        have hin : ∀ o, wr.heap[wc.heap.size + 1]? = some o → On (wc.heap.size + 1) 3 (wc.heap.size + 1) o := fun o ho => by
          rw [show wr.heap[wc.heap.size + 1]? = _ from hkb] at ho
          cases ho
          exact on_mk _ _
        have hns := round_next hin hkb hko hfr
        have Hns := Lib.hid hns
        have hbw := hI.out.1.trans (below_of_fr hfr (fun k o (x : On (wc.heap.size + 1) 3 k o) => show w.heap.size ≤ k by have := x.1; omega) hI.out.1.size)
        obtain ⟨cs1, cn1, m1, m2, hh1⟩ := hr2.head
        obtain ⟨-, -, y2, -, -, -⟩ := hh1.facts
        have kb0 := b2.cell 0
        have kk0 := hkb.cell 0
        have kf0 := hkb.frozen 0
        simp only [List.getElem?_toArray, List.getElem?_cons_zero] at kb0 kk0
        have hlk := hkb.lt
        by_cases hlt : k < s.n
        · obtain ⟨v0, hlw, fw⟩ := hr2.wets.cell hlt
          cases hwt : s.wet k
          · rw [hwt] at v0
            have hdry := wetsTo_dry hwt
            have Hd := Lib.hid hdry
            clear hwt hdry hr2 b2 b3 hkb hko hfr hns hin hh1 hbw
            gi_wp2
            refine region_quiet_round rfl (by kernel_rfl) (by kernel_rfl) (by kernel_rfl) ?_
            repeat (gi_big_quiet_step (fail))
            refine wpQuietIn_nil ?_
            intro _ hw'
            obtain ⟨nq, hw''⟩ := hw'
            subst hw''
            gi_wp2
            exact ⟨⟨k + 1, by omega, by omega, Hd.out.trans hwk, (Hns.out.2 nq).1, (Hns.out.2 nq).2.1, (Hns.out.2 nq).2.2.1⟩, by rw [Hns.out.1, (Hns.out.2 nq).2.2.2]; omega⟩
          · rw [hwt] at v0
            have hin2 : SI w h gs gn gw s (wc.heap.size + 1) (s.wetsTo m ++ [k]) wr := ⟨hbw, b2, b3, hr2, k + 1, by omega, by
              rw [wetsTo_next hwt, hwk], by
              rw [show ((k + 1 : Nat) : Int) - 1 = k by omega]; exact hkb⟩
            have HI2 := Lib.hid hin2
            have hnn := fun x (hx : x ≠ k) => not_next (s := s) (n := s.n) hlt hwt hx
            have Hnn := Lib.hid hnn
            have Hko := Lib.hid hko
            have Hfr := Lib.hid hfr
            clear hwt hr2 b2 hkb hko hfr hns hin hh1 hbw hin2 hnn
            gi_wp2
            refine region_quiet_round rfl (by kernel_rfl) (by kernel_rfl) (by kernel_rfl) ?_
            repeat (gi_big_quiet_step (fail))
            refine wpQuietIn_nil ?_
            intro _ hw'
            obtain ⟨nq, hw''⟩ := hw'
            subst hw''
            have kb0' := cell_drewN kb0 nq
            have kk0' := cell_drewN kk0 nq
            have y2' := cell_drewN y2 nq
            have HI2' := Lib.hid (SI.drewN HI2.out nq)
            have Hko' := Lib.hid (Hko.out.trans (ko_drewN wr nq))
            have Hfr' := Lib.hid (Hfr.out.drewN nq)
            have hlk' : wc.heap.size + 1 < (wr.drewN nq).heap.size := hlk
            have b3' := Lib.hid (b3.drewN nq)
            gi_wp2
            generalize wr.drewN nq = W1 at kb0' kk0' y2' HI2' Hko' Hfr' hlk' b3' ⊢
            clear kb0 kk0 y2 HI2 Hko Hfr kf0 v0 hlk b3
            have hdg : decide ((s.n : Int) ≤ (k : Int)) = false := by simp; omega
            have hdg2 : decide (s.n ≤ k) = false := by simp; omega
            by_cases hxk : x = k
            · subst hxk
              refine region_quiet_round rfl (by kernel_rfl) (by kernel_rfl) (by kernel_rfl) ?_
              repeat (gi_big_quiet_step (fail))
              refine wpQuietIn_nil ?_
              intro _ hw'
              obtain ⟨nq, hw''⟩ := hw'
              subst hw''
              gi_wp2
              exact ⟨Hko'.out.trans (ko_drewN W1 nq), (Hfr'.out.drewN nq).mono fun k o h => .inl (by obtain ⟨_, c, t, f, e, ht⟩ := h; exact ⟨c, t, f, e, by simp at ht; simp [ht]⟩), HI2'.out.drewN nq⟩
            · have hxi : ((x : Int) != k) = true := by simp; omega
              refine region_quiet_round rfl (by kernel_rfl) (by kernel_rfl) (by kernel_rfl) ?_
              repeat (gi_big_quiet_step (fail))
              refine wpQuietIn_nil ?_
              intro _ hw'
              obtain ⟨nq, hw''⟩ := hw'
              subst hw''
              have kf3 := (b3'.out.drewN nq).frozen 0
              have kc3 := (b3'.out.drewN nq).cell 0
              have hl3 := b3'.out.lt
              gi_wp2
              exact ⟨(Hko'.out.trans (ko_drewN W1 nq)).trans (KeepsOthers.setCell _ _ _), hwk ▸ Hnn.out x hxk⟩
        · have hke : k = s.n := by omega
          subst hke
          have hne : ¬ s.wetsTo m ++ [x] <+: s.wetsTo s.n := by rw [← hwk]; exact not_end
          have Hnn := Lib.hid hne
          have Hko := Lib.hid hko
          have b3 := Lib.hid b3
          have hdg : decide (s.n < s.n) = false := by simp
          have hdg2 : decide (s.n ≤ s.n) = true := by simp
          clear hr2 b2 hkb hko hfr hns hin hh1 hbw hne hwk
          gi_wp2
          refine region_quiet_round rfl (by kernel_rfl) (by kernel_rfl) (by kernel_rfl) ?_
          repeat (gi_big_quiet_step (fail))
          refine wpQuietIn_nil ?_
          intro _ hw'
          obtain ⟨nq, hw''⟩ := hw'
          subst hw''
          have kb0' := cell_drewN kb0 nq
          have kk0' := cell_drewN kk0 nq
          have y2' := cell_drewN y2 nq
          have Hko' := Lib.hid (Hko.out.trans (ko_drewN wr nq))
          have hlk' : wc.heap.size + 1 < (wr.drewN nq).heap.size := hlk
          have b3' := Lib.hid (b3.out.drewN nq)
          gi_wp2
          generalize wr.drewN nq = W1 at kb0' kk0' y2' Hko' hlk' b3' ⊢
          clear kb0 kk0 y2 Hko kf0 hlk b3
          refine region_quiet_round rfl (by kernel_rfl) (by kernel_rfl) (by kernel_rfl) ?_
          repeat (gi_big_quiet_step (fail))
          refine wpQuietIn_nil ?_
          intro _ hw'
          obtain ⟨nq, hw''⟩ := hw'
          subst hw''
          have kf3 := (b3'.out.drewN nq).frozen 0
          have kc3 := (b3'.out.drewN nq).cell 0
          have hl3 := b3'.out.lt
          gi_wp2
          exact ⟨(Hko'.out.trans (ko_drewN W1 nq)).trans (KeepsOthers.setCell _ _ _), Hnn.out⟩
    case done =>
      rintro D xs W hD rfl ⟨hb, b0, b1, hr, m, hm, hx, hk⟩ hDo
      have hbb : ∀ k, m ≤ k → k < s.n → s.wet k = false := fun k h1 h2 => wets_over hx h1 h2
      have kk0 := hk.cell 0
      have kf0 := hk.frozen 0
      simp only [List.getElem?_toArray, List.getElem?_cons_zero] at kk0
      obtain ⟨b, hbm⟩ : ∃ b : Int, b = (m : Int) - 1 := ⟨_, rfl⟩
      rw [← hbm] at kk0
      have hlk := hk.lt
      have hI := Lib.hid (show SI w h gs gn gw s (wc.heap.size + 1) (s.wetsTo m) W from ⟨hb, b0, b1, hr, m, hm, rfl, hk⟩)
      clear hb b0 b1 hr hk hba hq
      gi_wp2
      have hin : ∀ o, W.heap[wc.heap.size + 1]? = some o → On (wc.heap.size + 1) 3 (wc.heap.size + 1) o := fun o ho => by
        rw [show W.heap[wc.heap.size + 1]? = _ from (hI.out.2.2.2.2.choose_spec.2.2 : Blk W _ 3 _)] at ho
        cases ho
        exact on_mk _ _
      have hF0 : Fr (On (wc.heap.size + 1) 3) W (W.setCell ⟨wc.heap.size + 1, 0, none⟩ (.int .i64 (m : Int))) := (Fr.refl _ W).setIn hin _
      have hk0 : Blk (W.setCell ⟨wc.heap.size + 1, 0, none⟩ (.int .i64 (m : Int))) (wc.heap.size + 1) 3 #[.int .i64 (m : Int)] := by
        have := (hI.out.2.2.2.2.choose_spec.2.2 : Blk W _ 3 _).set_ 0 (.int .i64 (m : Int))
        simpa using this
      have HF0 := Lib.hid (And.intro hF0 hk0)
      clear hF0 hk0 hin kk0 kf0
      gi_loopw [] (fun wr => ∃ k : Nat, m ≤ k ∧ k ≤ s.n ∧ Fr (On (wc.heap.size + 1) 3) W wr ∧ Blk wr (wc.heap.size + 1) 3 #[.int .i64 (k : Int)]) (fun wr => s.n - boxNat wr (wc.heap.size + 1))
      case atStart => exact ⟨m, by omega, hm, HF0.out.1, HF0.out.2⟩
      case round =>
        obtain ⟨k, hmk, hkn, hfr, hkb⟩ := hrel
        have hr2 := hI.out.2.2.2.1.fr hfr (fun _ _ => on_not (by decide)) (fun _ _ => on_not (by decide)) (fun _ _ => on_not (by decide)) (fun _ _ => on_not (by decide)) (fun _ _ _ => on_not (by decide))
        have b2 := hI.out.2.1.fr hfr (on_not (by decide))
        have b3 := hI.out.2.2.1.fr hfr (on_not (by decide))
        have hin : ∀ o, wr.heap[wc.heap.size + 1]? = some o → On (wc.heap.size + 1) 3 (wc.heap.size + 1) o := fun o ho => by
          rw [show wr.heap[wc.heap.size + 1]? = _ from hkb] at ho
          cases ho
          exact on_mk _ _
        have hns := round_next hin hkb (KeepsOthers.refl _) (Fr.refl _ wr)
        have Hns := Lib.hid hns
        obtain ⟨cs1, cn1, m1, m2, hh1⟩ := hr2.head
        obtain ⟨-, -, y2, -, -, -⟩ := hh1.facts
        have kb0 := b2.cell 0
        have kk0 := hkb.cell 0
        have kf0 := hkb.frozen 0
        simp only [List.getElem?_toArray, List.getElem?_cons_zero] at kb0 kk0
        have hlk := hkb.lt
        have hD2 : wr.heap[D]? = some (.deferred (some [])) := hfr.block D _ hDo (fun x => by obtain ⟨_, c, t, f, e, _⟩ := x; cases e)
        have hbw := hI.out.1.trans (below_of_fr hfr (fun k o (x : On (wc.heap.size + 1) 3 k o) => show w.heap.size ≤ k by have := x.1; omega) hI.out.1.size)
        by_cases hlt : k < s.n
        · obtain ⟨v0, hlw, fw⟩ := hr2.wets.cell hlt
          rw [hbb k hmk hlt] at v0
          have Hfr := Lib.hid hfr
          clear hr2 b2 b3 hkb hfr hns hin hh1 hD2 hbw
          gi_wp2
          gi_quiet (fail)
          have kb0' := cell_drewN kb0 nq
          have kk0' := cell_drewN kk0 nq
          have y2' := cell_drewN y2 nq
          have v0' := cell_drewN v0 nq
          have kf0' : (wr.drewN nq).frozen? ⟨wc.heap.size + 1, 0, none⟩ = false := kf0
          have hlk' : wc.heap.size + 1 < (wr.drewN nq).heap.size := hlk
          have Hns' := Lib.hid (fun j => drewN_drewN wr nq j ▸ Hns.out.2 (nq + j))
          gi_wp2
          generalize wr.drewN nq = W1 at kb0' kk0' y2' v0' hlk' kf0' Hns' ⊢
          clear kb0 kk0 y2 kf0 hlk v0
          gi_quiet (fail)
          gi_wp2
          exact ⟨⟨k + 1, by omega, by omega, Hfr.out.trans (Hns'.out nq).2.1, (Hns'.out nq).2.2.1⟩, by rw [Hns.out.1, (Hns'.out nq).2.2.2]; omega⟩
        · have hke : k = s.n := by omega
          subst hke
          have hdg : decide (s.n < s.n) = false := by simp
          have b3 := Lib.hid b3
          have HD2 := Lib.hid hD2
          have Hbw := Lib.hid hbw
          clear hr2 b2 hkb hfr hns hin hh1 hD2 hbw
          gi_wp2
          gi_quiet (fail)
          have kb0' := cell_drewN kb0 nq
          have kf3 := (b3.out.drewN nq).frozen 0
          have kc3 := (b3.out.drewN nq).cell 0
          have hl3 : w.heap.size + 1 < (wr.drewN nq).heap.size := b3.out.lt
          gi_wp2
          have hD3 : ((wr.drewN nq).setCell ⟨w.heap.size + 1, 0, none⟩ (.bool true)).heap[D]? = some (.deferred (some [])) := (Below.heap_setCell _ _ _ _ (by have := Hw.out.size; simp at hD; simp; omega)).trans HD2.out
          have hB3 := (b3.out.drewN nq).set_ 0 (.bool true)
          refine ⟨by simp, .inl ⟨_, _, rfl, run_takeDeferred hD3, ?_⟩⟩
          refine ⟨_, results_bool rfl _ _ (w.heap.size + 1) true rfl (same_end hB3 (by have := Hw.out.size; simp at hD; omega)), rfl, ?_⟩
          have hbd : Below wr.heap.size wr (wr.drewN nq) := ⟨rfl, rfl, rfl, Nat.le_refl _, fun _ _ => rfl⟩
          exact ((Hbw.out.trans (hbd.mono Hbw.out.size)).setCell (p := ⟨_, _, none⟩) (by simp) _).trans (belowK_b (w := w) (Nat.le_refl _) _ D _ _ (by have := Hw.out.size; simp at hD; omega) hD3 rfl rfl)
    case stop =>
      rintro D c pre W _ h1 h2 _
      exact absurd h1 h2
  case pos =>
    obtain ⟨rfl, hb1⟩ := hcut
    obtain ⟨hbW, hB0, hB1⟩ := HB.out
    have hbw : Below w.heap.size w wc := hbW.trans (hb1.mono hsz)
    have hB0' := hB0.below hb1 hB0.lt
    have hB1' := hB1.below hb1 hB1.lt
    have hPc := HP0.out.below hb1
    have hRc := HR0.out.below hb1
    have hq := eqlNil48
    clear hbW hB0 hB1 HB HP0 HR0 hb1
    have Hw := Lib.hid hbw
    have HB0 := Lib.hid hB0'
    have HB1 := Lib.hid hB1'
    have HPc := Lib.hid hPc
    have HRc := Lib.hid hRc
    clear hbw hB0' hB1' hPc hRc
    gi_wp2_with (refine ⟨trivial, ?_⟩; gi_at_call 23; refine (callsIn_wide.2 (dirty_any _ _)).mono ?_; rintro e w5 ⟨rfl, rfl⟩)
    have hba := ((Below.refl wc.heap.size wc).alloc (Nat.le_refl _) (.cells #[.pointer (some ⟨g, 0, none⟩)] 27)).alloc (by simp) (.cells #[.int .i64 (-1)] 3)
    have hbb : Blk ((wc.alloc (.cells #[.pointer (some ⟨g, 0, none⟩)] 27)).alloc (.cells #[.int .i64 (-1)] 3)) wc.heap.size 27 #[.pointer (some ⟨g, 0, none⟩)] := heap_alloc2_old wc _ _
    have hbk : Blk ((wc.alloc (.cells #[.pointer (some ⟨g, 0, none⟩)] 27)).alloc (.cells #[.int .i64 (-1)] 3)) (wc.heap.size + 1) 3 #[.int .i64 (-1)] := heap_alloc2_new wc _ _
    have hszc := Hw.out.size
    refine wpIn_rangeFunc_ownF rfl (by omega) (gf := 34) (lb := #[.pointer (some ⟨wc.heap.size, 0, none⟩)]) rfl trivial enters34
      (dirty_stops (by omega) hbb (HPc.out.below hba) hn) (fun h k => Fr.trans h k) (fun W l o o' _ h hc _ => ksB W l o o' h hc) (Below.refl _ _) (fun _ => rfl)
      (SI w h gs gn gw s (wc.heap.size + 1)) (fun _ pre _ => ¬ pre <+: s.wetsTo s.n)
      (fun xs W W' row hi hg hr => hi.nc (by simp; omega) hg hr)
      (fun _ _ _ _ _ hs _ _ => hs) ⟨Hw.out.trans (hba.mono Hw.out.size), HB0.out.below hba HB0.out.lt, HB1.out.below hba HB1.out.lt, HRc.out.below hba, 0, by omega, rfl, hbk⟩ ?a3 ?assign ?body ?done ?stop
    case assign =>
      intro l x W K hK
      gi_wp2
      exact hK
    case body =>
      rintro l pre x W ⟨hb, b0, b1, hr, m, hm, rfl, hk⟩ hlen
      obtain ⟨cs1, cn1, m1, m2, hh1⟩ := hr.head
      obtain ⟨-, -, y2, -, -, -⟩ := hh1.facts
      have kb0 := b0.cell 0
      have kk0 := hk.cell 0
      have kf0 := hk.frozen 0
      simp only [List.getElem?_toArray, List.getElem?_cons_zero] at kb0 kk0
      obtain ⟨b, hbm⟩ : ∃ b : Int, b = (m : Int) - 1 := ⟨_, rfl⟩
      rw [← hbm] at kk0
      have hlk := hk.lt
      have hI := Lib.hid (show SI w h gs gn gw s (wc.heap.size + 1) (s.wetsTo m) W from ⟨hb, b0, b1, hr, m, hm, rfl, hk⟩)
      clear hb b0 b1 hr hh1 hk hba hbb hbk hq
      gi_wp2
      have hin : ∀ o, W.heap[wc.heap.size + 1]? = some o → On (wc.heap.size + 1) 3 (wc.heap.size + 1) o := fun o ho => by
        rw [show W.heap[wc.heap.size + 1]? = _ from (hI.out.2.2.2.2.choose_spec.2.2 : Blk W _ 3 _)] at ho
        cases ho
        exact on_mk _ _
      have hF0 : Fr (On (wc.heap.size + 1) 3) W (W.setCell ⟨wc.heap.size + 1, 0, none⟩ (.int .i64 (m : Int))) := (Fr.refl _ W).setIn hin _
      have hk0 : Blk (W.setCell ⟨wc.heap.size + 1, 0, none⟩ (.int .i64 (m : Int))) (wc.heap.size + 1) 3 #[.int .i64 (m : Int)] := by
        have := (hI.out.2.2.2.2.choose_spec.2.2 : Blk W _ 3 _).set_ 0 (.int .i64 (m : Int))
        simpa using this
      have HF0 := Lib.hid (And.intro hF0 hk0)
      clear hF0 hk0 hin kk0 kf0 kb0 y2
      gi_loopw [] (fun wr => ∃ k : Nat, m ≤ k ∧ k ≤ s.n ∧ s.wetsTo k = s.wetsTo m ∧ KeepsOthers W wr ∧ Fr (On (wc.heap.size + 1) 3) W wr ∧ Blk wr (wc.heap.size + 1) 3 #[.int .i64 (k : Int)]) (fun wr => s.n - boxNat wr (wc.heap.size + 1))
      case atStart => exact ⟨m, by omega, hm, rfl, KeepsOthers.setCell _ _ _, HF0.out.1, HF0.out.2⟩
      case round =>
        obtain ⟨k, hmk, hkn, hwk, hko, hfr, hkb⟩ := hrel
        have hr2 := hI.out.2.2.2.1.fr hfr (fun _ _ => on_not (by decide)) (fun _ _ => on_not (by decide)) (fun _ _ => on_not (by decide)) (fun _ _ => on_not (by decide)) (fun _ _ _ => on_not (by decide))
        have b2 := hI.out.2.1.fr hfr (on_not (by decide))
        have b3 := hI.out.2.2.1.fr hfr (on_not (by decide))
        have hin : ∀ o, wr.heap[wc.heap.size + 1]? = some o → On (wc.heap.size + 1) 3 (wc.heap.size + 1) o := fun o ho => by
          rw [show wr.heap[wc.heap.size + 1]? = _ from hkb] at ho
          cases ho
          exact on_mk _ _
        have hns := round_next hin hkb hko hfr
        have Hns := Lib.hid hns
        have hbw := hI.out.1.trans (below_of_fr hfr (fun k o (x : On (wc.heap.size + 1) 3 k o) => show w.heap.size ≤ k by have := x.1; omega) hI.out.1.size)
        obtain ⟨cs1, cn1, m1, m2, hh1⟩ := hr2.head
        obtain ⟨-, -, y2, -, -, -⟩ := hh1.facts
        have kb0 := b2.cell 0
        have kk0 := hkb.cell 0
        have kf0 := hkb.frozen 0
        simp only [List.getElem?_toArray, List.getElem?_cons_zero] at kb0 kk0
        have hlk := hkb.lt
        by_cases hlt : k < s.n
        · obtain ⟨v0, hlw, fw⟩ := hr2.wets.cell hlt
          cases hwt : s.wet k
          · rw [hwt] at v0
            have hdry := wetsTo_dry hwt
            have Hd := Lib.hid hdry
            clear hwt hdry hr2 b2 b3 hkb hko hfr hns hin hh1 hbw
            gi_wp2
            refine region_quiet_round rfl (by kernel_rfl) (by kernel_rfl) (by kernel_rfl) ?_
            repeat (gi_big_quiet_step (fail))
            refine wpQuietIn_nil ?_
            intro _ hw'
            obtain ⟨nq, hw''⟩ := hw'
            subst hw''
            gi_wp2
            exact ⟨⟨k + 1, by omega, by omega, Hd.out.trans hwk, (Hns.out.2 nq).1, (Hns.out.2 nq).2.1, (Hns.out.2 nq).2.2.1⟩, by rw [Hns.out.1, (Hns.out.2 nq).2.2.2]; omega⟩
          · rw [hwt] at v0
            have hin2 : SI w h gs gn gw s (wc.heap.size + 1) (s.wetsTo m ++ [k]) wr := ⟨hbw, b2, b3, hr2, k + 1, by omega, by
              rw [wetsTo_next hwt, hwk], by
              rw [show ((k + 1 : Nat) : Int) - 1 = k by omega]; exact hkb⟩
            have HI2 := Lib.hid hin2
            have hnn := fun x (hx : x ≠ k) => not_next (s := s) (n := s.n) hlt hwt hx
            have Hnn := Lib.hid hnn
            have Hko := Lib.hid hko
            have Hfr := Lib.hid hfr
            clear hwt hr2 b2 hkb hko hfr hns hin hh1 hbw hin2 hnn
            gi_wp2
            refine region_quiet_round rfl (by kernel_rfl) (by kernel_rfl) (by kernel_rfl) ?_
            repeat (gi_big_quiet_step (fail))
            refine wpQuietIn_nil ?_
            intro _ hw'
            obtain ⟨nq, hw''⟩ := hw'
            subst hw''
            have kb0' := cell_drewN kb0 nq
            have kk0' := cell_drewN kk0 nq
            have y2' := cell_drewN y2 nq
            have HI2' := Lib.hid (SI.drewN HI2.out nq)
            have Hko' := Lib.hid (Hko.out.trans (ko_drewN wr nq))
            have Hfr' := Lib.hid (Hfr.out.drewN nq)
            have hlk' : wc.heap.size + 1 < (wr.drewN nq).heap.size := hlk
            have b3' := Lib.hid (b3.drewN nq)
            gi_wp2
            generalize wr.drewN nq = W1 at kb0' kk0' y2' HI2' Hko' Hfr' hlk' b3' ⊢
            clear kb0 kk0 y2 HI2 Hko Hfr kf0 v0 hlk b3
            have hdg : decide ((s.n : Int) ≤ (k : Int)) = false := by simp; omega
            have hdg2 : decide (s.n ≤ k) = false := by simp; omega
            by_cases hxk : x = k
            · subst hxk
              refine region_quiet_round rfl (by kernel_rfl) (by kernel_rfl) (by kernel_rfl) ?_
              repeat (gi_big_quiet_step (fail))
              refine wpQuietIn_nil ?_
              intro _ hw'
              obtain ⟨nq, hw''⟩ := hw'
              subst hw''
              gi_wp2
              exact ⟨Hko'.out.trans (ko_drewN W1 nq), (Hfr'.out.drewN nq).mono fun k o h => .inl (by obtain ⟨_, c, t, f, e, ht⟩ := h; exact ⟨c, t, f, e, by simp at ht; simp [ht]⟩), HI2'.out.drewN nq⟩
            · have hxi : ((x : Int) != k) = true := by simp; omega
              refine region_quiet_round rfl (by kernel_rfl) (by kernel_rfl) (by kernel_rfl) ?_
              repeat (gi_big_quiet_step (fail))
              refine wpQuietIn_nil ?_
              intro _ hw'
              obtain ⟨nq, hw''⟩ := hw'
              subst hw''
              have kf3 := (b3'.out.drewN nq).frozen 0
              have kc3 := (b3'.out.drewN nq).cell 0
              have hl3 := b3'.out.lt
              gi_wp2
              exact ⟨(Hko'.out.trans (ko_drewN W1 nq)).trans (KeepsOthers.setCell _ _ _), hwk ▸ Hnn.out x hxk⟩
        · have hke : k = s.n := by omega
          subst hke
          have hne : ¬ s.wetsTo m ++ [x] <+: s.wetsTo s.n := by rw [← hwk]; exact not_end
          have Hnn := Lib.hid hne
          have Hko := Lib.hid hko
          have b3 := Lib.hid b3
          have hdg : decide (s.n < s.n) = false := by simp
          have hdg2 : decide (s.n ≤ s.n) = true := by simp
          clear hr2 b2 hkb hko hfr hns hin hh1 hbw hne hwk
          gi_wp2
          refine region_quiet_round rfl (by kernel_rfl) (by kernel_rfl) (by kernel_rfl) ?_
          repeat (gi_big_quiet_step (fail))
          refine wpQuietIn_nil ?_
          intro _ hw'
          obtain ⟨nq, hw''⟩ := hw'
          subst hw''
          have kb0' := cell_drewN kb0 nq
          have kk0' := cell_drewN kk0 nq
          have y2' := cell_drewN y2 nq
          have Hko' := Lib.hid (Hko.out.trans (ko_drewN wr nq))
          have hlk' : wc.heap.size + 1 < (wr.drewN nq).heap.size := hlk
          have b3' := Lib.hid (b3.out.drewN nq)
          gi_wp2
          generalize wr.drewN nq = W1 at kb0' kk0' y2' Hko' hlk' b3' ⊢
          clear kb0 kk0 y2 Hko kf0 hlk b3
          refine region_quiet_round rfl (by kernel_rfl) (by kernel_rfl) (by kernel_rfl) ?_
          repeat (gi_big_quiet_step (fail))
          refine wpQuietIn_nil ?_
          intro _ hw'
          obtain ⟨nq, hw''⟩ := hw'
          subst hw''
          have kf3 := (b3'.out.drewN nq).frozen 0
          have kc3 := (b3'.out.drewN nq).cell 0
          have hl3 := b3'.out.lt
          gi_wp2
          exact ⟨(Hko'.out.trans (ko_drewN W1 nq)).trans (KeepsOthers.setCell _ _ _), Hnn.out⟩
    case done =>
      rintro D xs W hD rfl ⟨hb, b0, b1, hr, m, hm, hx, hk⟩ hDo
      have hbb : ∀ k, m ≤ k → k < s.n → s.wet k = false := fun k h1 h2 => wets_over hx h1 h2
      have kk0 := hk.cell 0
      have kf0 := hk.frozen 0
      simp only [List.getElem?_toArray, List.getElem?_cons_zero] at kk0
      obtain ⟨b, hbm⟩ : ∃ b : Int, b = (m : Int) - 1 := ⟨_, rfl⟩
      rw [← hbm] at kk0
      have hlk := hk.lt
      have hI := Lib.hid (show SI w h gs gn gw s (wc.heap.size + 1) (s.wetsTo m) W from ⟨hb, b0, b1, hr, m, hm, rfl, hk⟩)
      clear hb b0 b1 hr hk hba hq
      gi_wp2
      have hin : ∀ o, W.heap[wc.heap.size + 1]? = some o → On (wc.heap.size + 1) 3 (wc.heap.size + 1) o := fun o ho => by
        rw [show W.heap[wc.heap.size + 1]? = _ from (hI.out.2.2.2.2.choose_spec.2.2 : Blk W _ 3 _)] at ho
        cases ho
        exact on_mk _ _
      have hF0 : Fr (On (wc.heap.size + 1) 3) W (W.setCell ⟨wc.heap.size + 1, 0, none⟩ (.int .i64 (m : Int))) := (Fr.refl _ W).setIn hin _
      have hk0 : Blk (W.setCell ⟨wc.heap.size + 1, 0, none⟩ (.int .i64 (m : Int))) (wc.heap.size + 1) 3 #[.int .i64 (m : Int)] := by
        have := (hI.out.2.2.2.2.choose_spec.2.2 : Blk W _ 3 _).set_ 0 (.int .i64 (m : Int))
        simpa using this
      have HF0 := Lib.hid (And.intro hF0 hk0)
      clear hF0 hk0 hin kk0 kf0
      gi_loopw [] (fun wr => ∃ k : Nat, m ≤ k ∧ k ≤ s.n ∧ Fr (On (wc.heap.size + 1) 3) W wr ∧ Blk wr (wc.heap.size + 1) 3 #[.int .i64 (k : Int)]) (fun wr => s.n - boxNat wr (wc.heap.size + 1))
      case atStart => exact ⟨m, by omega, hm, HF0.out.1, HF0.out.2⟩
      case round =>
        obtain ⟨k, hmk, hkn, hfr, hkb⟩ := hrel
        have hr2 := hI.out.2.2.2.1.fr hfr (fun _ _ => on_not (by decide)) (fun _ _ => on_not (by decide)) (fun _ _ => on_not (by decide)) (fun _ _ => on_not (by decide)) (fun _ _ _ => on_not (by decide))
        have b2 := hI.out.2.1.fr hfr (on_not (by decide))
        have b3 := hI.out.2.2.1.fr hfr (on_not (by decide))
        have hin : ∀ o, wr.heap[wc.heap.size + 1]? = some o → On (wc.heap.size + 1) 3 (wc.heap.size + 1) o := fun o ho => by
          rw [show wr.heap[wc.heap.size + 1]? = _ from hkb] at ho
          cases ho
          exact on_mk _ _
        have hns := round_next hin hkb (KeepsOthers.refl _) (Fr.refl _ wr)
        have Hns := Lib.hid hns
        obtain ⟨cs1, cn1, m1, m2, hh1⟩ := hr2.head
        obtain ⟨-, -, y2, -, -, -⟩ := hh1.facts
        have kb0 := b2.cell 0
        have kk0 := hkb.cell 0
        have kf0 := hkb.frozen 0
        simp only [List.getElem?_toArray, List.getElem?_cons_zero] at kb0 kk0
        have hlk := hkb.lt
        have hD2 : wr.heap[D]? = some (.deferred (some [])) := hfr.block D _ hDo (fun x => by obtain ⟨_, c, t, f, e, _⟩ := x; cases e)
        have hbw := hI.out.1.trans (below_of_fr hfr (fun k o (x : On (wc.heap.size + 1) 3 k o) => show w.heap.size ≤ k by have := x.1; omega) hI.out.1.size)
        by_cases hlt : k < s.n
        · obtain ⟨v0, hlw, fw⟩ := hr2.wets.cell hlt
          rw [hbb k hmk hlt] at v0
          have Hfr := Lib.hid hfr
          clear hr2 b2 b3 hkb hfr hns hin hh1 hD2 hbw
          gi_wp2
          gi_quiet (fail)
          have kb0' := cell_drewN kb0 nq
          have kk0' := cell_drewN kk0 nq
          have y2' := cell_drewN y2 nq
          have v0' := cell_drewN v0 nq
          have kf0' : (wr.drewN nq).frozen? ⟨wc.heap.size + 1, 0, none⟩ = false := kf0
          have hlk' : wc.heap.size + 1 < (wr.drewN nq).heap.size := hlk
          have Hns' := Lib.hid (fun j => drewN_drewN wr nq j ▸ Hns.out.2 (nq + j))
          gi_wp2
          generalize wr.drewN nq = W1 at kb0' kk0' y2' v0' hlk' kf0' Hns' ⊢
          clear kb0 kk0 y2 kf0 hlk v0
          gi_quiet (fail)
          gi_wp2
          exact ⟨⟨k + 1, by omega, by omega, Hfr.out.trans (Hns'.out nq).2.1, (Hns'.out nq).2.2.1⟩, by rw [Hns.out.1, (Hns'.out nq).2.2.2]; omega⟩
        · have hke : k = s.n := by omega
          subst hke
          have hdg : decide (s.n < s.n) = false := by simp
          have b3 := Lib.hid b3
          have HD2 := Lib.hid hD2
          have Hbw := Lib.hid hbw
          clear hr2 b2 hkb hfr hns hin hh1 hD2 hbw
          gi_wp2
          gi_quiet (fail)
          have kb0' := cell_drewN kb0 nq
          have kf3 := (b3.out.drewN nq).frozen 0
          have kc3 := (b3.out.drewN nq).cell 0
          have hl3 : w.heap.size + 1 < (wr.drewN nq).heap.size := b3.out.lt
          gi_wp2
          have hD3 : ((wr.drewN nq).setCell ⟨w.heap.size + 1, 0, none⟩ (.bool true)).heap[D]? = some (.deferred (some [])) := (Below.heap_setCell _ _ _ _ (by have := Hw.out.size; simp at hD; simp; omega)).trans HD2.out
          have hB3 := (b3.out.drewN nq).set_ 0 (.bool true)
          refine ⟨by simp, .inl ⟨_, _, rfl, run_takeDeferred hD3, ?_⟩⟩
          refine ⟨_, results_bool rfl _ _ (w.heap.size + 1) true rfl (same_end hB3 (by have := Hw.out.size; simp at hD; omega)), rfl, ?_⟩
          have hbd : Below wr.heap.size wr (wr.drewN nq) := ⟨rfl, rfl, rfl, Nat.le_refl _, fun _ _ => rfl⟩
          exact ((Hbw.out.trans (hbd.mono Hbw.out.size)).setCell (p := ⟨_, _, none⟩) (by simp) _).trans (belowK_b (w := w) (Nat.le_refl _) _ D _ _ (by have := Hw.out.size; simp at hD; omega) hD3 rfl rfl)
    case stop =>
      rintro D c pre W _ h1 h2 _
      exact absurd h1 h2
end Go.Proofs.Ytadmccbminiadaa
