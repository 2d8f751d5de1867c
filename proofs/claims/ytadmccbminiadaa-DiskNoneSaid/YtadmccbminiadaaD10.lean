/- Contracts of the functions of disk and of the law's own, part 10. No condition beyond each theorem's own. -/
import Derived.Test.YtadmccbminiadaaD9
import Derived.Lib.SlBytesConst
namespace Go.Proofs.Ytadmccbminiadaa
open Go.RowKit Go.Shelf
attribute [local go_sem] Oper.semAt_some

theorem enters28 : ∀ args w1, (callFunc 28 args).run Try.prog w1 = .ok (.enter 28 args) w1 := enters_of Try.func28 (by kernel_rfl) rfl
theorem enters34 : ∀ args w1, (callFunc 34 args).run Try.prog w1 = .ok (.enter 34 args) w1 := enters_of Try.func34 (by kernel_rfl) rfl
theorem beq_two (i : Nat) : ((i : Int) == 2) = (i == 2) := by
  rw [Bool.eq_iff_iff]
  simp
  omega
theorem keep28 (i : Nat) (w : World) : Calls Try.prog 28 #[.int .i64 (i : Int)] w fun e w' => e = .returned (.bool (i == 2)) ∧ w = w' := by
  rw [← beq_two]
  go_enter Try.func28, Try.ntmps28
  go_wp2
  go_ret
  exact ⟨rfl, rfl⟩

/-- A turn of blocks from B on is none below B. -/
theorem below_of_fr {S : Nat → Obj → Prop} {a b : World} {B : Nat} (h : Fr S a b) (hS : ∀ k o, S k o → B ≤ k) (hB : B ≤ a.heap.size) : Below B a b :=
  ⟨h.os, h.tape, h.output, h.size, fun k hk => by
    have e : a.heap[k]? = some a.heap[k] := Array.getElem?_eq_getElem (by omega)
    rw [e]; exact h.block k _ e (fun x => by have := hS _ _ x; omega)⟩
theorem dk_ge {g gl B : Nat} (hg : B ≤ g) (hgl : B ≤ gl) : ∀ k o, Dk g gl k o → B ≤ k := by
  rintro k o (⟨rfl, _⟩ | ⟨rfl, _⟩) <;> assumption
theorem eqlNil48 (w : World) (f : Nat) (cap : Array Value) : (binOp .eql 48 (.func (.func f) #[] cap) .nilFunc).run Try.prog w = .ok (.bool false) w := by
  kernel_rfl
/-- What is no cells may turn. -/
def NC (_ : Nat) (o : Obj) : Prop := o.isCells = false
theorem fr_of_grown {W W' : World} {row : Option Nat} (hg : W.grownBy W' row) (hr : ∀ r, row = some r → ∃ o : Obj, W.heap[r]? = some o ∧ o.isCells = false) : Fr NC W W' :=
  ⟨hg.os, hg.tape, hg.output, hg.size, fun k o ho hn => by
    rw [hg.block k (lt_of_heap ho) (fun e => by
      obtain ⟨o', ho', hc⟩ := hr k e.symm
      rw [ho] at ho'; cases ho'; exact hn hc)]
    exact ho⟩
theorem nc_not {k : Nat} {c : Array Value} {t : TypeId} {f : Nat × Nat} : ¬ NC k (.cells c t f) := fun h => by cases h
theorem ksB (W : World) (l : Nat) (o o' : Obj) (h : W.heap[l]? = some o) (hc : o.isCells = false) : Fr KS W (W.putObj l o') :=
  (fr_of_grown (grownBy_putObj' W l o') (fun r e => by cases e; exact ⟨o, h, hc⟩)).mono fun _ _ h => .inr h
theorem PD.nc {W W' : World} {g gl : Nat} {s : DS} (h : PD W g gl s) (hf : Fr NC W W') : PD W' g gl s := h.fr hf (fun _ _ => nc_not) (fun _ _ => nc_not) (fun _ _ _ => nc_not)
theorem one_bytes (w : World) : Bytes (w.alloc (.cells #[.int .u8 97] 5 (1, 2))) (some ⟨w.heap.size, 0, none⟩) 1 [97] :=
  ⟨rfl, fun _ => ⟨_, 0, rfl, fun j x hx => by
    cases j with
    | zero => cases hx; rw [cell_of_row _ _ _ _ _ _ (heap_alloc_new w _)]; rfl
    | succ j => cases hx⟩⟩

set_option maxRecDepth 100000 in
set_option maxHeartbeats 2000000 in
theorem begun_any (w : World) : Calls Try.prog 7 #[] w fun e w' => e = .returned (.bool true) ∧ Below w.heap.size w w' := by
  have kc := fun (w : World) (C : Array Value) (n c : Nat) => Lib.run_convert_bytes_const (P := Try.prog) w 31 5 C n c Try.underlying31 Try.underlying5
  refine (callsIn_wide (n := 5)).1 ?_
  refine callsIn_of_wp_marks Try.func7 rfl trivial ?_ rfl
  simp only [Try.ntmps7, List.size_toArray, List.length_nil, Nat.reduceSub, Array.replicate_succ, Array.replicate_zero, List.push_toArray, List.append_toArray, List.nil_append, List.cons_append]
  gi_wp2_with (refine ⟨trivial, ?_⟩; gi_at_call 8; refine (callsIn_wide.2 (new_ok 3 _ (by omega) (by omega))).mono ?_; rintro e w1 ⟨g, gl, rfl, hg, hgl, hP, hb⟩)
  refine ⟨trivial, ?_⟩
  refine (callsIn_wide.2 (full_in (some ⟨w1.heap.size, 0, none⟩) 1 1 [97] 256 _ (one_bytes w1) (by omega) (by omega))).mono ?_
  rintro e w2 ⟨b, rfl, hb2, hB2, hbl2⟩
  rw [over_length] at *
  have hb2' : Below w1.heap.size w1 w2 := ((Below.refl _ w1).alloc (Nat.le_refl _) _).trans (hbl2.mono (by simp))
  have hP2 := hP.below hb2'
  have hg0 : w.heap.size ≤ g := hg
  have hgl0 : w.heap.size ≤ gl := hgl
  have hbw2 : Below w.heap.size w w2 := hb.trans (hb2'.mono hb.size)
  have hw0 := write_in hP2 0 (by show 0 < 3; omega) rfl ⟨b, 0, none⟩ 256 _ (over_length [97] 256 ▸ brow_bytes hB2) ⟨by show (0 : Int) ≤ 0; omega, by show (0 : Int) < 1000000; omega⟩ (fun h => by cases h)
  have hF1 : Fr No w w2 := Fr.of_below hbw2
  have Hb2 := Lib.hid hB2
  clear hB2 hb2' hbl2 hP hP2 hb2
  gi_wp2_with fail
  refine ⟨trivial, ?_⟩
  refine (callsIn_wide.2 hw0).mono ?_
  rintro e w3 ⟨rfl, hF3, hP3⟩
  have hbw3 : Below w.heap.size w w3 := hbw2.trans (below_of_fr hF3 (dk_ge hg0 hgl0) hbw2.size)
  have hB3 := Hb2.out.fr hF3 (dk_not (by decide) (by decide))
  have hw1 := write_in hP3 2 (by show 2 < 3; omega) rfl ⟨b, 0, none⟩ 256 _ (over_length [97] 256 ▸ brow_bytes hB3) ⟨by show (0 : Int) ≤ 0 + 1; omega, by show (0 : Int) + 1 < 1000000; omega⟩ (fun h => by cases h)
  clear hw0 hP3 hF3 hF1 hbw2
  have Hb3 := Lib.hid hB3
  clear hB3
  gi_wp2_with fail
  refine ⟨trivial, ?_⟩
  refine (callsIn_wide.2 hw1).mono ?_
  rintro e w4 ⟨rfl, hF4, hP4⟩
  have hbw4 : Below w.heap.size w w4 := hbw3.trans (below_of_fr hF4 (dk_ge hg0 hgl0) hbw3.size)
  clear hw1 hF4 hbw3 Hb3 Hb2
  obtain ⟨s4, hs4⟩ : ∃ s4, s4 = DS.write (DS.write (DS.new 3) 0 (over [97] 256)) 2 (over [97] 256) := ⟨_, rfl⟩
  rw [← hs4] at hP4
  have Hs4 := Lib.hid hs4
  clear hs4
  gi_wp2_with fail
  refine ⟨trivial, ?_⟩
  refine (callsIn_wide.2 (dirty_any _ _)).mono ?_
  rintro e w5 ⟨rfl, rfl⟩
  have hq := eqlNil48
  gi_wp2
  have hbw6 : Below w.heap.size w ((w4.alloc (.cells #[.pointer (some ⟨g, 0, none⟩)] 27)).alloc (.cells #[.int .i64 0] 3)) := (hbw4.alloc hbw4.size _).alloc (by have := hbw4.size; simp; omega) _
  have hba := ((Below.refl w4.heap.size w4).alloc (Nat.le_refl _) (.cells #[.pointer (some ⟨g, 0, none⟩)] 27)).alloc (by simp) (.cells #[.int .i64 0] 3)
  have hbb : Blk ((w4.alloc (.cells #[.pointer (some ⟨g, 0, none⟩)] 27)).alloc (.cells #[.int .i64 0] 3)) w4.heap.size 27 #[.pointer (some ⟨g, 0, none⟩)] := heap_alloc2_old w4 _ _
  have hbk : Blk ((w4.alloc (.cells #[.pointer (some ⟨g, 0, none⟩)] 27)).alloc (.cells #[.int .i64 0] 3)) (w4.heap.size + 1) 3 #[.int .i64 0] := heap_alloc2_new w4 _ _
  have hn4 : s4.n = 3 := by rw [Hs4.out]; rfl
  have hw4 : s4.wetsTo s4.n = [0, 2] := by rw [Hs4.out]; rfl
  refine wpIn_rangeFunc_ownF rfl (by omega) (gf := 34) (lb := #[.pointer (some ⟨w4.heap.size, 0, none⟩)]) rfl trivial enters34
    (dirty_stops (by omega) hbb (hP4.below hba) (by rw [hn4]; omega)) (fun h k => Fr.trans h k) (fun W l o o' _ h hc _ => ksB W l o o' h hc) (Below.refl _ _) (fun _ => rfl)
    (fun pre W => Blk W (w4.heap.size + 1) 3 #[.int .i64 (pre.length : Int)] ∧ PD W g gl s4 ∧ Below w.heap.size w W) (fun _ _ _ => False)
    (fun s W W' row hi hg hr => ⟨hi.1.fr (fr_of_grown hg (fun r e => (hr r e).2)) nc_not, hi.2.1.nc (fr_of_grown hg (fun r e => (hr r e).2)), hi.2.2.grown hg hi.2.2.size (fun k e => Nat.le_trans hbw6.size (hr k e).1)⟩)
    (fun _ _ _ _ _ hs _ _ => hs) ⟨hbk, hP4.below hba, hbw6⟩ ?a1 ?assign ?body ?done ?stop
  case assign =>
    intro l x W K hK
    gi_wp2
    exact hK
  case body =>
    rintro l pre x W ⟨hk, hp, hb⟩ hlen
    have hlen2 : (pre.length : Int) < 3 := by omega
    have hc := hk.cell 0
    have hf := hk.frozen 0
    simp only [List.getElem?_toArray, List.getElem?_cons_zero] at hc
    have Hk := Lib.hid hk
    clear hlen hk
    gi_wp2
    have hin : ∀ o, W.heap[w4.heap.size + 1]? = some o → KS (w4.heap.size + 1) o := fun o ho => by
      rw [show W.heap[w4.heap.size + 1]? = _ from Hk.out] at ho
      cases ho
      exact .inl ⟨_, _, _, rfl, by simp⟩
    have hF : Fr KS W (W.setCell ⟨w4.heap.size + 1, 0, none⟩ (.int .i64 ((pre.length : Int) + 1))) := (Fr.refl _ W).setIn hin _
    refine ⟨KeepsOthers.setCell _ _ _, hF, ?_, hp.fr hF (fun _ _ => ks_not (by decide) (by decide)) (fun _ _ => ks_not (by decide) (by decide)) (fun _ _ _ => ks_not (by decide) (by decide)), hb.setCell (p := ⟨_, _, none⟩) (by have := hbw4.size; simp; omega) _⟩
    have := Hk.out.set_ 0 (.int .i64 ((pre.length : Int) + 1))
    simpa using this
  case done =>
    rintro D xs W hD rfl ⟨hk, hp, hb⟩ hDo
    rw [hw4] at hk
    have hDlt : D < W.heap.size := lt_of_heap hDo
    have hkp : Keeper W 28 #[] s4.n s4.wet (fun i => i == 2) No (fun _ _ => True) :=
      { start := trivial, skip := fun _ _ _ _ _ => trivial, keeps := fun _ _ _ _ _ => trivial
        calls := fun i w1 _ _ _ => (keep28 i w1).mono fun e w2 ⟨he, hw⟩ => ⟨he, trivial, hw ▸ Fr.refl _ _⟩
        enters := enters28
        types := fun _ _ _ _ h => h.elim }
    gi_wp2_with fail
    refine ⟨trivial, ?_⟩
    refine (callsIn_wide.2 (crash_any hp (by omega) (by omega) hkp)).mono ?_
    rintro e w7 ⟨g2, gl2, rfl, hg2, -, hPx, hPd, hF7, -⟩
    have hb7 := hF7.below
    have hk7 := hk.below hb7 hk.lt
    have hD7 : w7.heap[D]? = some (.deferred (some [])) := (hb7.block D hDlt).trans hDo
    have hlen4 : ∀ i, i < s4.n → (s4.now i).length = 256 := by
      obtain ⟨_, nv, sv, _, hd⟩ := hp
      exact fun i hi => data_len (hd i hi).1
    have hlen4 := Lib.hid hlen4
    gi_wp2_with fail
    refine ⟨trivial, ?_⟩
    refine (callsIn_wide.2 (image_any hPd (by omega))).mono ?_
    rintro e w8 ⟨A, c, rfl, hlc, hB8, hb8⟩
    have hli : (image s4.now s4.n).length = 3 * 256 := by
      rw [image_length _ _ hlen4.out, hn4]
    rw [hli] at hB8 hlc ⊢
    gi_wp2_with fail
    refine ⟨trivial, ?_⟩
    refine (callsIn_wide.2 (load_ok A c _ 3 _ (by omega) (by omega) hB8 hlc)).mono ?_
    rintro e w9 ⟨g3, gl3, rfl, hP9, hb9⟩
    have hb79 : Below w7.heap.size w7 w9 := hb8.trans (hb9.mono hb8.size)
    have hk9 := hk7.below hb79 hk7.lt
    have hD9 : w9.heap[D]? = some (.deferred (some [])) := (hb79.block D (lt_of_heap hD7)).trans hD7
    have hPx9 := hPx.below hb79
    have hPd9 := hPd.below hb79
    have c9 := hk9.cell 0
    have hc4 : s4.count = 2 := by rw [Hs4.out]; rfl
    have hx0 : (s4.crash fun i => i == 2).now 0 = zero256 := by rw [Hs4.out]; rfl
    have hx2 : (s4.crash fun i => i == 2).now 2 = over [97] 256 := by rw [Hs4.out]; rfl
    have hcount := count_any hPd9
    rw [hc4] at hcount
    have hr0 : Calls Try.prog 25 #[.pointer (some ⟨g2, 0, none⟩), .int .i64 0] w9 _ := read_in hPx9 0 (show 0 < s4.n by omega)
    rw [hx0] at hr0
    have hbw9 : Below w.heap.size w w9 := (hb.trans (hb7.mono hb.size)).trans (hb79.mono (hb.trans (hb7.mono hb.size)).size)
    have hn4' : 0 < s4.n := by omega
    have hn4'' : 2 < s4.n := by omega
    have Hk9 := Lib.hid hk9
    have HD9 := Lib.hid hD9
    simp only [List.getElem?_toArray, List.getElem?_cons_zero] at c9
    clear hk hk7 hk9 hDo hD7 hD9 hbb hbk hba hbw6 hn4 hw4 hc4 hP4 hp hPd hPx hF7 hb7 hb8 hb9 hB8 hlc hli hlen4 hq kc hb
    gi_wp2_with fail
    refine ⟨trivial, ?_⟩
    refine (callsIn_wide.2 hcount).mono ?_
    rintro e w' ⟨rfl, rfl⟩
    gi_wp2_with fail
    refine ⟨trivial, ?_⟩
    refine (callsIn_wide.2 hr0).mono ?_
    rintro e w10 ⟨a1, c1, rfl, hB10, -, hb10⟩
    have hPx10 := hPx9.below hb10
    have hr1 : Calls Try.prog 25 #[.pointer (some ⟨g2, 0, none⟩), .int .i64 0] w10 _ := read_in hPx10 0 (show 0 < s4.n by exact hn4')
    rw [hx0] at hr1
    clear hcount hr0 c9 hPd9
    gi_wp2_with fail
    refine ⟨trivial, ?_⟩
    refine (callsIn_wide.2 hr1).mono ?_
    rintro e w11 ⟨a2, c2, rfl, hB11, -, hb11⟩
    obtain ⟨b11, o11, he11, q11⟩ := hB11.at_ (k := 0) (by omega)
    cases he11
    have e11 : zero256.getD 0 0 = 0 := rfl
    rw [e11, Nat.add_zero] at q11
    have hPx11 := hPx10.below hb11
    have hr2 : Calls Try.prog 25 #[.pointer (some ⟨g2, 0, none⟩), .int .i64 2] w11 _ := read_in hPx11 2 (show 2 < s4.n by exact hn4'')
    rw [hx2] at hr2
    clear hr1 hPx9 hPx10 hPx11
    gi_wp2_with fail
    refine ⟨trivial, ?_⟩
    refine (callsIn_wide.2 hr2).mono ?_
    rintro e w12 ⟨a3, c3, rfl, hB12, -, hb12⟩
    obtain ⟨b12, o12, he12, q12⟩ := hB12.at_ (k := 0) (by omega)
    cases he12
    have e12 : (over [97] 256).getD 0 0 = 97 := rfl
    rw [e12, Nat.add_zero] at q12
    have hbz : Below w9.heap.size w9 w12 := (hb10.trans (hb11.mono hb10.size)).trans (hb12.mono (hb10.trans (hb11.mono hb10.size)).size)
    have hP12 := hP9.below hbz
    have hs12 := sectors_any hP12
    clear hr2 hP9
    gi_wp2_with fail
    refine ⟨trivial, ?_⟩
    refine (callsIn_wide.2 hs12).mono ?_
    rintro e w13 ⟨rfl, rfl⟩
    have hD12 := (hbz.block D (lt_of_heap HD9.out)).trans HD9.out
    clear hs12 hP12
    have hbw12 : Below w.heap.size w w12 := hbw9.trans (hbz.mono hbw9.size)
    gi_wp2
    refine ⟨by simp, .inl ⟨_, _, rfl, run_takeDeferred hD12, ?_⟩⟩
    refine ⟨_, results_tmp rfl _ _ _, rfl, ?_⟩
    exact hbw12.trans (belowK_b (w := w) (Nat.le_refl _) w12 D _ _ (by have := hbw4.size; simp at hD; omega) hD12 rfl rfl)
  case stop =>
    rintro D c pre W _ _ h _
    exact h.elim
end Go.Proofs.Ytadmccbminiadaa
