/- Contracts: a block through the cipher. No condition beyond each theorem's own. -/
import Derived.Test.YtmilanicedjhmaaF9
import Derived.Test.YtmilanicedjhmaaG3
import Derived.Test.YtmilanicedjhmaaP6
import Derived.Outline
import Derived.Sort.CutIn
import Derived.Sort.LoopGhostIn
namespace Go.Proofs.Ytmilanicedjhmaa
open Go.RowKit Go.Shelf
set_option linter.unusedSimpArgs false
attribute [local go_sem] Oper.semAt_some KeyAt.enc

theorem arr65w (w : World) (a : Addr) (c : Nat) : (Instr.arrayAt 65 (.slice (some a) 16 c)).run Try.prog w = .ok (.pointer (some a)) w := arr65 w a c
theorem enters51 : ∀ args w1, (callFunc 51 args).run Try.prog w1 = .ok (.enter 51 args) w1 := enters_of Try.func51 (by kernel_rfl) rfl
/-- A block that a call has made: 16 bytes by an index function. -/
def New16 (w : World) (f : Nat → UInt8) (e : Ending) (w' : World) : Prop :=
  ∃ b, e = .returned (.slice (some ⟨b, 0, none⟩) 16 16) ∧ w.heap.size ≤ b ∧ Blk w' b 65 (brow (tab 16 f)) ∧ Below w.heap.size w w'
theorem brow16 (f : Nat → UInt8) : brow (tab 16 f) = #[B8 (f 0), B8 (f 1), B8 (f 2), B8 (f 3), B8 (f 4), B8 (f 5), B8 (f 6), B8 (f 7), B8 (f 8), B8 (f 9), B8 (f 10), B8 (f 11), B8 (f 12), B8 (f 13), B8 (f 14), B8 (f 15)] := rfl

set_option maxRecDepth 100000 in
theorem enc_nil (A : Option Addr) (n c : Nat) (w : World) : Calls Try.prog 18 #[.pointer none, .slice A n c] w fun e w' => e = .returned (.slice none 0 0) ∧ Below w.heap.size w w' := by
  go_enter Try.func18, Try.ntmps18
  go_wp2
  go_ret
  exact ⟨rfl, (Below.refl _ w).alloc (Nat.le_refl _) _⟩
set_option maxRecDepth 100000 in
theorem enc_no (p : Addr) (A : Option Addr) (n c : Nat) (w : World) (hn : n ≠ 16) : Calls Try.prog 18 #[.pointer (some p), .slice A n c] w fun e w' => e = .returned (.slice none 0 0) ∧ Below w.heap.size w w' := by
  have k1 : ((n : Int) != 16) = true := by simp; omega
  go_enter Try.func18, Try.ntmps18
  go_wp2
  go_ret
  exact ⟨rfl, (Below.refl _ w).alloc (Nat.le_refl _) _⟩

/-- What is cells lies as it lay. -/
def KeepsCells (W W' : World) : Prop := ∀ (k : Nat) (o : Obj), W.heap[k]? = some o → o.isCells = true → W'.heap[k]? = some o
theorem Blk.kc {W W' : World} {g : Nat} {t : TypeId} {cs : Array Value} (h : Blk W g t cs) (hk : KeepsCells W W') : Blk W' g t cs := hk _ _ h rfl
theorem cell_kc {W W' : World} (hk : KeepsCells W W') {a : Addr} {v : Value} (h : W.cell? a = some v) : W'.cell? a = some v := by
  obtain ⟨c, t, f, hh⟩ := heap_of_cell h
  rw [World.cell?_of_block (w := W) (by rw [hk _ _ hh rfl, hh])]; exact h
theorem At.kc {W W' : World} {A : Option Addr} {n : Nat} {f : Nat → UInt8} (h : At W A n f) (hk : KeepsCells W W') : At W' A n f := fun h0 => by
  obtain ⟨b, o, e, hc⟩ := h h0
  exact ⟨b, o, e, fun j hj => cell_kc hk (hc j hj)⟩
theorem PC.kc {W W' : World} {g gk nw : Nat} {key : List UInt8} (h : PC W g gk nw key) (hk : KeepsCells W W') : PC W' g gk nw key := by
  obtain ⟨kc, h0, h1, h2⟩ := h
  exact ⟨kc, h0, h1.kc hk, fun k j hk' hj => cell_kc hk (h2 k j hk' hj)⟩
theorem kc_grown {W W' : World} {row : Option Nat} (hg : W.grownBy W' row) (hr : ∀ r, row = some r → ∃ o : Obj, W.heap[r]? = some o ∧ o.isCells = false) : KeepsCells W W' := fun k _ ho hc => by
  rw [hg.block k (lt_of_heap ho) (fun e => by
    obtain ⟨o', ho', hc'⟩ := hr k e.symm
    rw [ho] at ho'; cases ho'; rw [hc] at hc'; cases hc')]
  exact ho
theorem kc_put {W : World} {l : Nat} {o o' : Obj} (h : W.heap[l]? = some o) (hc : o.isCells = false) : KeepsCells W (W.putObj l o') := kc_grown (grownBy_putObj' W l o') (fun r e => by cases e; exact ⟨o, h, hc⟩)
theorem fr_put {S : Nat → Obj → Prop} {W : World} {l : Nat} {o' : Obj} (hS : ∀ k o, ¬ S k o → k < l) : Fr S W (W.putObj l o') := by
  have hg := grownBy_putObj' W l o'
  exact ⟨hg.os, hg.tape, hg.output, hg.size, fun k o ho hn => by
    rw [hg.block k (lt_of_heap ho) (fun e => by have := hS k o hn; cases e; omega)]; exact ho⟩
theorem grows_kc {A B : World} (h : Grows A B) : KeepsCells A B := fun _ _ ho _ => (h.block _ (lt_of_heap ho)).trans ho

theorem frC {W W9 : World} {B : Nat} {t : TypeId} {cs : Array Value} (hf : Fr (OnB B) W W9) (hb : Blk W B t cs) : Fr (fun k o => o.isCells = true ∧ k = B) W W9 :=
  ⟨hf.os, hf.tape, hf.output, hf.size, fun k o ho hn => hf.block k o ho (fun e => by
    have e : k = B := e
    subst e
    have h9 : W.heap[k]? = _ := hb
    rw [ho] at h9
    cases h9
    exact hn ⟨rfl, rfl⟩)⟩

/-- What holds when k round keys have come. -/
def EncI (w : World) (g gk Bn Bs nw : Nat) (key : List UInt8) (b : Nat → UInt8) (pre : List KeyAt) (W : World) : Prop :=
  Blk W Bs 65 (brow (tab 16 (encTo nw key b pre.length))) ∧ PC W g gk nw key ∧ Blk W Bn 25 #[.pointer (some ⟨g, 0, none⟩)] ∧ Below w.heap.size w W

set_option maxRecDepth 100000 in
set_option maxHeartbeats 4000000 in
theorem enc_some {w : World} {g gk nw : Nat} {key : List UInt8} (hP : PC w g gk nw key) (hnw : nw ≤ 8) (A : Option Addr) (c : Nat) (b : Nat → UInt8) (hA : At w A 16 b) : Calls Try.prog 18 #[.pointer (some ⟨g, 0, none⟩), .slice A 16 c] w (New16 w (encF nw key b)) := by
  obtain ⟨bb, bo, rfl, q⟩ := hA (by omega)
  have hr : w.rangeAt bb bo ((tab 16 b).map B8) := fun j v hv => by
    have hj : j < 16 := by have := (List.getElem?_eq_some_iff.1 hv).1; simpa using this
    rw [List.getElem?_map, tab_get b hj] at hv
    cases hv
    exact q j hj
  have Hr := Lib.hid (World.rangeAt_alloc hr (.cells #[.pointer (some ⟨g, 0, none⟩)] 25))
  clear q hA hr
  have harr := arr65w
  have hq := fun (w : World) (f : Nat) (cap : Array Value) => (show (binOp .eql 31 (.func (.func f) #[] cap) .nilFunc).run Try.prog w = .ok (.bool false) w by kernel_rfl)
  refine (callsIn_wide (n := 5)).1 ?_
  refine callsIn_of_wp_marks Try.func18 rfl trivial ?_ rfl
  simp only [Try.ntmps18, List.size_toArray, List.length_cons, List.length_nil, Nat.reduceAdd, Nat.reduceSub, Array.replicate_succ, Array.replicate_zero, List.push_toArray, List.append_toArray, List.nil_append, List.cons_append]
  gi_upto_region 3 with fail
  refine wpIn_region_lit ?_
  iterate 6 gi_step
  refine wpListIn_load_wide rfl 65 (.tmp 18) rfl bb bo rfl ((tab 16 b).map B8) _ Hr.out Try.underlying65 rfl (by rw [List.length_map, tab_length]; exact size65) ?_
  iterate 3 gi_step
  have hz0 : Blk ((w.alloc (.cells #[.pointer (some ⟨g, 0, none⟩)] 25)).alloc (.cells #[Value.int IntKind.u8 0, Value.int IntKind.u8 0, Value.int IntKind.u8 0, Value.int IntKind.u8 0, Value.int IntKind.u8 0, Value.int IntKind.u8 0, Value.int IntKind.u8 0, Value.int IntKind.u8 0, Value.int IntKind.u8 0, Value.int IntKind.u8 0, Value.int IntKind.u8 0, Value.int IntKind.u8 0, Value.int IntKind.u8 0, Value.int IntKind.u8 0, Value.int IntKind.u8 0, Value.int IntKind.u8 0] 65)) (w.heap.size + 1) 65 (brow (tab 16 fun _ => 0)) := heap_alloc2_new w _ _
  refine wpListIn_store_wide rfl 65 (.tmp 5) (.tmp 19) rfl (w.heap.size + 1) 0 ((tab 16 b).map B8).toArray rfl rfl (by have := there_blk hz0; simpa using this) (by rw [List.size_toArray, List.length_map, tab_length]; exact size65) (all_oneCell_toArray (oneCell_map (tab 16 b))) ?_
  intro W2 hW2
  have hS2 : Blk W2 (w.heap.size + 1) 65 (brow (tab 16 b)) := by rw [hW2]; exact blk_setAll hz0 (by simp)
  have hF2 : Fr (OnB (w.heap.size + 1)) _ W2 := hW2 ▸ fr_setCells _ _ _
  have hlow2 : Below w.heap.size w W2 := below_new (((Below.refl _ w).alloc (Nat.le_refl _) (.cells #[.pointer (some ⟨g, 0, none⟩)] 25)).alloc (by simp) _) hF2 (by omega) (by simp; omega)
  have hB2 : Blk W2 w.heap.size 25 #[.pointer (some ⟨g, 0, none⟩)] := ((Blk.new w 25 _).alloc _).fr hF2 (fun e => by have e : w.heap.size = w.heap.size + 1 := e; omega)
  have hz2 : W2.heap.size = w.heap.size + 2 := by rw [hW2]; simp [size_setCells]
  have b2 := hB2.cell 0
  simp only [List.getElem?_toArray, List.getElem?_cons_zero] at b2
  have HW2 := Lib.hid (And.intro hS2 (And.intro hlow2 hB2))
  clear hW2 hF2 hS2 hlow2 hB2 hz0
  gi_wp2_with (refine ⟨trivial, ?_⟩; gi_at_call 20; refine (callsIn_wide.2 (keys_any _ _)).mono ?_; rintro e w5 ⟨rfl, rfl⟩)
  obtain ⟨W1, hW1⟩ : ∃ W1 : World, W1 = W2.alloc (.cells #[.pointer (some ⟨g, 0, none⟩)] 25) := ⟨_, rfl⟩
  have hlow1 : Below w.heap.size w W1 := by rw [hW1]; exact HW2.out.2.1.alloc HW2.out.2.1.size _
  have hz1 : W1.heap.size = w.heap.size + 3 := by rw [hW1]; simp; omega
  have hB1 : Blk W1 w.heap.size 25 #[.pointer (some ⟨g, 0, none⟩)] := by rw [hW1]; exact HW2.out.2.2.alloc _
  have hS1 : Blk W1 (w.heap.size + 1) 65 (brow (tab 16 b)) := by rw [hW1]; exact HW2.out.1.alloc _
  have hK1 : Blk W1 (w.heap.size + 2) 25 #[.pointer (some ⟨g, 0, none⟩)] := by
    rw [hW1, ← hz2]
    exact Blk.new W2 25 _
  have hgl : g < w.heap.size ∧ gk < w.heap.size := by
    obtain ⟨kc, h0, h1, h2⟩ := hP
    exact ⟨h1.lt, World.block_lt_of_cell? w _ (h2 0 0 (by omega) (by omega))⟩
  have hP1 : PC W1 g gk nw key := hP.below hlow1
  rw [← hW1]
  clear hW1 HW2 hz2 b2 harr hq hP Hr
  refine wpIn_rangeFunc_X rfl (by omega) (gf := 51) (lb := #[.pointer (some ⟨w.heap.size + 2, 0, none⟩)]) rfl trivial enters51 (keys_seq (by omega) hK1 hP1 hnw) (fun h k => Fr.trans h k)
    (fun W l o o' hl h hc _ => fr_put (fun k o hn => by
      rcases Classical.em (k < l) with h | h
      · exact h
      · exact (hn ⟨by omega, by omega, by omega⟩).elim))
    (fun pre x W l o o' hl h hc _ hG => ⟨hG.1, hG.2.1.kc (kc_put h hc), hG.2.2⟩)
    (fun A B k o h hk ho _ _ => (h.block k (lt_of_heap ho)).trans ho) (fun o o' => ((Below.refl _ W1).alloc (Nat.le_refl _) _).alloc (by simp) _) (fun _ => rfl)
    (EncI w g gk w.heap.size (w.heap.size + 1) nw key b) (fun _ _ _ => False)
    (fun s W W' row hi hg hr => ⟨hi.1.kc (kc_grown hg (fun r e => (hr r e).2)), hi.2.1.kc (kc_grown hg (fun r e => (hr r e).2)), hi.2.2.1.kc (kc_grown hg (fun r e => (hr r e).2)), hi.2.2.2.grown hg hi.2.2.2.size (fun k e => Nat.le_trans (by omega) (hr k e).1)⟩)
    (fun _ _ _ _ _ hs _ _ => hs) (fun s A B hi h => ⟨hi.1.kc (grows_kc h), hi.2.1.kc (grows_kc h), hi.2.2.1.kc (grows_kc h), hi.2.2.2.trans (h.mono hi.2.2.2.size)⟩) (fun _ _ _ _ h _ => h) ⟨hS1, hP1, hB1, hlow1⟩ ?a1 ?assign ?body ?done ?stop
  case assign =>
    intro l x W K hK
    gi_wp2
    exact hK
  case body =>
    rintro l pre ⟨xi, xa, xc⟩ W ⟨hs, hp, hb, hlow⟩ ⟨hx1, hx2, hx3⟩ hlen
    change xi = pre.length at hx1
    change At W xa 16 (rkey nw key xi) at hx2
    change ∀ a, xa = some a → W1.heap.size ≤ a.block at hx3
    obtain ⟨m, hm⟩ : ∃ m, m = pre.length := ⟨_, rfl⟩
    rw [← hm] at hx1 hs hlen
    subst hx1
    have hne : ∀ a, xa = some a → a.block ≠ w.heap.size + 1 := fun a ha e => by have := hx3 a ha; omega
    have hfin : ∀ W9, Blk W9 (w.heap.size + 1) 65 (brow (tab 16 (encTo nw key b (xi + 1)))) → Fr (fun k o => o.isCells = true ∧ (k = w.heap.size + 1)) W W9 → KeepsOthers W W9 ∧ Fr (NotC g gk (w.heap.size + 2)) W W9 ∧ EncI w g gk w.heap.size (w.heap.size + 1) nw key b (pre ++ [⟨xi, xa, xc⟩]) W9 := fun W9 h1 h2 => by
      refine ⟨keeps_of_fr h2 (fun _ _ _ h => h.1), h2.mono (fun k o h => ⟨by have := h.2; omega, by have := h.2; omega, by have := h.2; omega⟩), by rw [List.length_append, ← hm]; exact h1, hp.fr h2 (fun _ h => by have := h.2; omega) (fun _ h => by have := h.2; omega), hb.fr h2 (fun h => by have := h.2; omega), ?_⟩
      exact hlow.trans ⟨h2.os, h2.tape, h2.output, h2.size, fun k hk => by
        have hk2 : k < W.heap.size := by have := hlow.size; omega
        have e : W.heap[k]? = some W.heap[k] := Array.getElem?_eq_getElem hk2
        rw [e]; exact h2.block k _ e (fun x => by have := x.2; omega)⟩
    have Hfin := Lib.hid hfin
    have Hm := Lib.hid hm
    clear hfin hm
    by_cases h0 : xi = 0
    · subst h0
      have hadd := add_any hs xa 16 xc (by omega) hx2 hne
      have Hs := Lib.hid hs
      clear hs hx2
      gi_wp2_with (refine ⟨trivial, ?_⟩; gi_at_call 50; refine (calls_round l hadd).mono ?_; rintro e W9 ⟨rfl, hs9, hf9⟩)
      exact Hfin.out W9 hs9 (frC hf9 Hs.out)
    · have hi1 : (0 : Int) < xi := by omega
      have hi2 : decide (0 < xi) = true := decide_eq_true (by omega)
      have hstep : tab 16 (encTo nw key b (xi + 1)) = tab 16 (fun j => (if xi < nw + 6 then mixF (subF (encTo nw key b xi)) mFwd else subF (encTo nw key b xi)) j ^^^ rkey nw key xi j) := by
        obtain ⟨k, rfl⟩ : ∃ k, xi = k + 1 := ⟨xi - 1, by omega⟩
        rfl
      clear h0
      generalize encTo nw key b xi = s at hs hstep
      obtain ⟨kc, hkc, hc0, hck⟩ := hp
      have kc0 := hc0.cell 0
      rw [ccells_zero] at kc0
      have kb0 := hb.cell 0
      simp only [List.getElem?_toArray, List.getElem?_cons_zero] at kb0
      have hbox : ∀ x : UInt8, W.cell? ⟨g, 1 + x.toNat, none⟩ = some (B8 (S8 x)) := fun x => by
        have h := hc0.cell (1 + x.toNat)
        rw [ccells_box _ _ _ (by simp) x.toNat_lt, tab_getD _ x.toNat_lt] at h
        exact h
      have hgW : g < W.heap.size := hc0.lt
      have HS := Lib.hid (And.intro hs (And.intro hbox (And.intro kb0 kc0)))
      have Hstep := Lib.hid hstep
      have Hx2 := Lib.hid hx2
      clear hs hbox kb0 kc0 hc0 hck hb hstep hx2 hlow
      gi_wp2
      obtain ⟨T, hT⟩ : ∃ T, T = W.heap.size := ⟨_, rfl⟩
      rw [← hT]
      have hz0 : Blk (W.alloc (.cells #[Value.int IntKind.u8 0, Value.int IntKind.u8 0, Value.int IntKind.u8 0, Value.int IntKind.u8 0, Value.int IntKind.u8 0, Value.int IntKind.u8 0, Value.int IntKind.u8 0, Value.int IntKind.u8 0, Value.int IntKind.u8 0, Value.int IntKind.u8 0, Value.int IntKind.u8 0, Value.int IntKind.u8 0, Value.int IntKind.u8 0, Value.int IntKind.u8 0, Value.int IntKind.u8 0, Value.int IntKind.u8 0] 65)) T 65 (brow (tab 16 (zeroTo (subF s) 0))) := by
        rw [hT, zeroTo_zero]
        exact Blk.new W 65 _
      have hlT0 : Below T W (W.alloc (.cells #[Value.int IntKind.u8 0, Value.int IntKind.u8 0, Value.int IntKind.u8 0, Value.int IntKind.u8 0, Value.int IntKind.u8 0, Value.int IntKind.u8 0, Value.int IntKind.u8 0, Value.int IntKind.u8 0, Value.int IntKind.u8 0, Value.int IntKind.u8 0, Value.int IntKind.u8 0, Value.int IntKind.u8 0, Value.int IntKind.u8 0, Value.int IntKind.u8 0, Value.int IntKind.u8 0, Value.int IntKind.u8 0] 65)) := (Below.refl _ W).alloc (by omega) _
      have HT := Lib.hid hT
      have hTw : w.heap.size + 1 < T ∧ g < T := ⟨by have := HS.out.1.lt; omega, by omega⟩
      clear hT
      gi_loopw [9, 26] (fun _ vi wr => ∃ j : Nat, j ≤ 16 ∧ vi = .int .i64 j ∧ Blk wr T 65 (brow (tab 16 (zeroTo (subF s) j))) ∧ Below T W wr) (fun _ vi _ => 16 - (intOf vi).toNat)
      case atStart => exact ⟨0, by omega, rfl, hz0, hlT0⟩
      case round =>
        obtain ⟨j, hj16, rfl, ht, hlT⟩ := hrel
        by_cases hlj : j < 16
        · clear hz0 hlT0
          have hji : (j : Int) < 16 := by omega
          have hj0 : (0 : Int) ≤ j := by omega
          obtain ⟨hs, hbox, kb0, kc0⟩ := HS.out
          have hq16 : (j + j % 4 * 4) % 16 < 16 := by omega
          have C0 := (hlT.cell (p := ⟨w.heap.size, 0, none⟩) (by show w.heap.size < T; omega)).trans kb0
          have hsq := hs.cell ((j + j % 4 * 4) % 16)
          rw [brow_tab 16 s hq16] at hsq
          have C1 := (hlT.cell (p := ⟨w.heap.size + 1, (j + j % 4 * 4) % 16, none⟩) (by show w.heap.size + 1 < T; omega)).trans hsq
          have hqv : subF s j = S8 (s ((j + j % 4 * 4) % 16)) := rfl
          have hm1 : ((j : Int) + (j : Int) % 4 * 4) % 16 = (((j + j % 4 * 4) % 16 : Nat) : Int) := by omega
          generalize s ((j + j % 4 * 4) % 16) = sx at C1 hqv
          generalize (j + j % 4 * 4) % 16 = qx at C1 hm1 hq16
          have C2 := (hlT.cell (p := ⟨g, 1 + sx.toNat, none⟩) (by show g < T; omega)).trans (hbox sx)
          have hq0 : (0 : Int) ≤ qx := by omega
          have hq1 : (qx : Int) < 16 := by omega
          have hw1 : IntKind.i64.wrap ((j : Int) % 4 * 4) = (j : Int) % 4 * 4 := wrap_i64 (by omega) (by omega)
          have hw2 : IntKind.i64.wrap ((j : Int) + (j : Int) % 4 * 4) = (j : Int) + (j : Int) % 4 * 4 := wrap_i64 (by omega) (by omega)
          have hm2 : ((j : Int) + (j : Int) % 4 * 4).tmod 16 = qx := by rw [Int.tmod_eq_emod_of_nonneg (by omega)]; exact hm1
          have hm3 : (j : Int).tmod 4 = (j : Int) % 4 := Int.tmod_eq_emod_of_nonneg (by omega)
          have hsx : (sx.toNat : Int) < 256 := by have := sx.toNat_lt; omega
          have ct := ht.cell j
          rw [brow_tab 16 _ hlj] at ct
          have cf := ht.frozen j
          have n0 := ht.set_ j (B8 (subF s j))
          rw [brow_tab_set _ _ hlj, zeroTo_upd] at n0
          have n1 := hlT.setCell (p := ⟨T, j, none⟩) (Nat.le_refl _) (B8 (subF s j))
          rw [hqv] at n0 n1
          have HN := Lib.hid (And.intro n0 n1)
          have hTl := ht.lt
          clear n0 n1 ht hlT hqv hs hbox kb0 kc0 hsq
          gi_upto_region 12 with fail
          refine wp_region_T_round (fun w' => w'.cell? ⟨w.heap.size, 0, none⟩ = some (.pointer (some ⟨g, 0, none⟩)) ∧ w'.cell? ⟨w.heap.size + 1, qx, none⟩ = some (B8 sx) ∧ w'.cell? ⟨g, 1 + sx.toNat, none⟩ = some (.int .u8 ((S8 sx).toNat : Int))) [15] (by kernel_rfl) (by kernel_rfl) ?_ (fun hHeld => ?_)
          · exact ⟨C0, C1, C2⟩
          refine wpAnyT_take (i := 0) (v := ?_) (by simp only [List.getElem?_toArray, List.getElem?_cons_zero, List.getElem?_cons_succ]; rfl) (by kernel_rfl) (by kernel_rfl) (by kernel_rfl) (by kernel_rfl) (by kernel_rfl) (fun _ _ _ h => h) (Or.inl ⟨by rfl, ?_⟩) (by assumption) ?_
          rotate_left
          · intro w hSw; (try dsimp only at hSw); go_simp; try (with_reducible rfl)
          try simp only [Act.put, List.setIfInBounds_toArray, List.set_cons_zero, List.set_cons_succ]
          refine wpAnyT_take (i := 1) (v := ?_) (by simp only [List.getElem?_toArray, List.getElem?_cons_zero, List.getElem?_cons_succ]; rfl) (by kernel_rfl) (by kernel_rfl) (by kernel_rfl) (by kernel_rfl) (by kernel_rfl) (fun _ _ _ h => h) (Or.inl ⟨by rfl, ?_⟩) (by assumption) ?_
          rotate_left
          · intro w hSw; (try dsimp only at hSw); go_simp; try (with_reducible rfl)
          try simp only [Act.put, List.setIfInBounds_toArray, List.set_cons_zero, List.set_cons_succ]
          refine wpAnyT_take (i := 2) (v := ?_) (by simp only [List.getElem?_toArray, List.getElem?_cons_zero, List.getElem?_cons_succ]; rfl) (by kernel_rfl) (by kernel_rfl) (by kernel_rfl) (by kernel_rfl) (by kernel_rfl) (fun _ _ _ h => h) (Or.inl ⟨by rfl, ?_⟩) (by assumption) ?_
          rotate_left
          · intro w hSw; (try dsimp only at hSw); go_simp; try (with_reducible rfl)
          try simp only [Act.put, List.setIfInBounds_toArray, List.set_cons_zero, List.set_cons_succ]
          refine wpAnyT_take (i := 3) (v := ?_) (by simp only [List.getElem?_toArray, List.getElem?_cons_zero, List.getElem?_cons_succ]; rfl) (by kernel_rfl) (by kernel_rfl) (by kernel_rfl) (by kernel_rfl) (by kernel_rfl) (fun _ _ _ h => h) (Or.inl ⟨by rfl, ?_⟩) (by assumption) ?_
          rotate_left
          · intro w hSw; (try dsimp only at hSw); go_simp; try (with_reducible rfl)
          try simp only [Act.put, List.setIfInBounds_toArray, List.set_cons_zero, List.set_cons_succ]
          refine wpAnyT_take (i := 4) (v := ?_) (by simp only [List.getElem?_toArray, List.getElem?_cons_zero, List.getElem?_cons_succ]; rfl) (by kernel_rfl) (by kernel_rfl) (by kernel_rfl) (by kernel_rfl) (by kernel_rfl) (fun _ _ _ h => h) (Or.inl ⟨by rfl, ?_⟩) (by assumption) ?_
          rotate_left
          · intro w hSw; (try dsimp only at hSw); go_simp; try (with_reducible rfl)
          try simp only [Act.put, List.setIfInBounds_toArray, List.set_cons_zero, List.set_cons_succ]
          refine wpAnyT_take (i := 5) (v := ?_) (by simp only [List.getElem?_toArray, List.getElem?_cons_zero, List.getElem?_cons_succ]; rfl) (by kernel_rfl) (by kernel_rfl) (by kernel_rfl) (by kernel_rfl) (by kernel_rfl) (fun _ _ _ h => h) (Or.inl ⟨by rfl, ?_⟩) (by assumption) ?_
          rotate_left
          · intro w hSw; (try dsimp only at hSw); go_simp; try (with_reducible rfl)
          try simp only [Act.put, List.setIfInBounds_toArray, List.set_cons_zero, List.set_cons_succ]
          refine wpAnyT_take (i := 6) (v := ?_) (by simp only [List.getElem?_toArray, List.getElem?_cons_zero, List.getElem?_cons_succ]; rfl) (by kernel_rfl) (by kernel_rfl) (by kernel_rfl) (by kernel_rfl) (by kernel_rfl) (fun _ _ _ h => h) (Or.inl ⟨by rfl, ?_⟩) (by assumption) ?_
          rotate_left
          · intro w hSw; (try dsimp only at hSw); go_simp; try (with_reducible rfl)
          try simp only [Act.put, List.setIfInBounds_toArray, List.set_cons_zero, List.set_cons_succ]
          refine wpAnyT_take (i := 7) (v := ?_) (by simp only [List.getElem?_toArray, List.getElem?_cons_zero, List.getElem?_cons_succ]; rfl) (by kernel_rfl) (by kernel_rfl) (by kernel_rfl) (by kernel_rfl) (by kernel_rfl) (fun _ _ _ h => h) (Or.inl ⟨by rfl, ?_⟩) (by assumption) ?_
          rotate_left
          · intro w hSw; (try dsimp only at hSw); go_simp; try (with_reducible rfl)
          try simp only [Act.put, List.setIfInBounds_toArray, List.set_cons_zero, List.set_cons_succ]
          refine wpAnyT_take (i := 8) (v := ?_) (by simp only [List.getElem?_toArray, List.getElem?_cons_zero, List.getElem?_cons_succ]; rfl) (by kernel_rfl) (by kernel_rfl) (by kernel_rfl) (by kernel_rfl) (by kernel_rfl) (fun _ _ _ h => h) (Or.inl ⟨by rfl, ?_⟩) (by assumption) ?_
          rotate_left
          · intro w hSw; (try dsimp only at hSw); go_simp; try (with_reducible rfl)
          try simp only [Act.put, List.setIfInBounds_toArray, List.set_cons_zero, List.set_cons_succ]
          refine wpAnyT_take (i := 9) (v := ?_) (by simp only [List.getElem?_toArray, List.getElem?_cons_zero, List.getElem?_cons_succ]; rfl) (by kernel_rfl) (by kernel_rfl) (by kernel_rfl) (by kernel_rfl) (by kernel_rfl) (fun _ _ _ h => h) (Or.inl ⟨by rfl, ?_⟩) (by assumption) ?_
          rotate_left
          · intro w hSw; (try dsimp only at hSw); go_simp; try (with_reducible rfl)
          try simp only [Act.put, List.setIfInBounds_toArray, List.set_cons_zero, List.set_cons_succ]
          refine wpAnyT_take (i := 10) (v := ?_) (by simp only [List.getElem?_toArray, List.getElem?_cons_zero, List.getElem?_cons_succ]; rfl) (by kernel_rfl) (by kernel_rfl) (by kernel_rfl) (by kernel_rfl) (by kernel_rfl) (fun _ _ _ h => h) (Or.inl ⟨by rfl, ?_⟩) (by assumption) ?_
          rotate_left
          · intro w hSw; (try dsimp only at hSw); go_simp; try (with_reducible rfl)
          try simp only [Act.put, List.setIfInBounds_toArray, List.set_cons_zero, List.set_cons_succ]
          refine wpAnyT_take (i := 11) (v := ?_) (by simp only [List.getElem?_toArray, List.getElem?_cons_zero, List.getElem?_cons_succ]; rfl) (by kernel_rfl) (by kernel_rfl) (by kernel_rfl) (by kernel_rfl) (by kernel_rfl) (fun _ _ _ h => h) (Or.inl ⟨by rfl, ?_⟩) (by assumption) ?_
          rotate_left
          · intro w hSw; (try dsimp only at hSw); go_simp; try (with_reducible rfl)
          try simp only [Act.put, List.setIfInBounds_toArray, List.set_cons_zero, List.set_cons_succ]
          refine wpAnyT_take (i := 12) (v := ?_) (by simp only [List.getElem?_toArray, List.getElem?_cons_zero, List.getElem?_cons_succ]; rfl) (by kernel_rfl) (by kernel_rfl) (by kernel_rfl) (by kernel_rfl) (by kernel_rfl) (fun _ _ _ h => h) (Or.inl ⟨by rfl, ?_⟩) (by assumption) ?_
          rotate_left
          · intro w hSw; (try dsimp only at hSw); go_simp; try (with_reducible rfl)
          try simp only [Act.put, List.setIfInBounds_toArray, List.set_cons_zero, List.set_cons_succ]
          refine wpAnyT_take (i := 13) (v := ?_) (by simp only [List.getElem?_toArray, List.getElem?_cons_zero, List.getElem?_cons_succ]; rfl) (by kernel_rfl) (by kernel_rfl) (by kernel_rfl) (by kernel_rfl) (by kernel_rfl) (fun _ _ _ h => h) (Or.inl ⟨by rfl, ?_⟩) (by assumption) ?_
          rotate_left
          · intro w hSw; (try dsimp only at hSw); go_simp; try (with_reducible rfl)
          try simp only [Act.put, List.setIfInBounds_toArray, List.set_cons_zero, List.set_cons_succ]
          refine wpAnyT_take (i := 14) (v := ?_) (by simp only [List.getElem?_toArray, List.getElem?_cons_zero, List.getElem?_cons_succ]; rfl) (by kernel_rfl) (by kernel_rfl) (by kernel_rfl) (by kernel_rfl) (by kernel_rfl) (fun _ _ _ h => h) (Or.inl ⟨by rfl, ?_⟩) (by assumption) ?_
          rotate_left
          · intro w hSw; (try dsimp only at hSw); go_simp; try (with_reducible rfl)
          try simp only [Act.put, List.setIfInBounds_toArray, List.set_cons_zero, List.set_cons_succ]
          refine wpAnyT_ready (rs := [15]) (by kernel_rfl) (by simp) (AllReadyT.store (by simp only [List.getElem?_toArray, List.getElem?_cons_zero, List.getElem?_cons_succ]; rfl) (by simp) (fun K hK => ?_) AllReadyT.nil)
          go_simp
          refine hK.out _ _ ?_
          clear hK K
          try simp only [Act.put, List.setIfInBounds_toArray, List.set_cons_zero, List.set_cons_succ]
          refine wpAnyT_done (by kernel_rfl) ?_ _
          refine NoOut.normal ?_
          gi_wp2
          exact ⟨⟨j + 1, by omega, by go_num, HN.out.1.drew, HN.out.2.drew⟩, by simp [intOf]; omega⟩
        · obtain rfl : j = 16 := by omega
          rw [zeroTo_all] at ht
          clear hz0 hlT0
          have kb1 := (hlT.cell (p := ⟨w.heap.size, 0, none⟩) (by show w.heap.size < T; omega)).trans HS.out.2.2.1
          have kc1 := (hlT.cell (p := ⟨g, 0, none⟩) (by show g < T; omega)).trans HS.out.2.2.2
          have hs1 : Blk wr (w.heap.size + 1) 65 (brow (tab 16 s)) := HS.out.1.below hlT (by omega)
          have Ht := Lib.hid (And.intro ht (And.intro hs1 hlT))
          clear ht hs1 hlT hlj hj16
          gi_upto_region 14 with fail
          refine wpIn_region_lit ?_
          refine wpListIn_load_round rfl 65 (.tmp 8) rfl T 0 rfl ((tab 16 (subF s)).map B8) _ (range_blk Ht.out.1) Try.underlying65 rfl (by rw [List.length_map, tab_length]; exact size65) ?_
          refine wpListIn_store_round rfl 65 (.tmp 5) (.tmp 45) rfl (w.heap.size + 1) 0 ((tab 16 (subF s)).map B8).toArray rfl rfl (by have := there_blk Ht.out.2.1; simpa using this) (by rw [List.size_toArray, List.length_map, tab_length]; exact size65) (all_oneCell_toArray (oneCell_map (tab 16 (subF s)))) ?_
          intro W4 hW4
          have hs4 : Blk W4 (w.heap.size + 1) 65 (brow (tab 16 (subF s))) := by rw [hW4]; exact blk_setAll Ht.out.2.1 (by simp)
          have hF4 : Fr (OnB (w.heap.size + 1)) wr W4 := hW4 ▸ fr_setCells _ _ _
          have hlTT := Ht.out.2.2.size
          have kb4 := hF4.cell kb1 (fun o _ (x : OnB (w.heap.size + 1) w.heap.size o) => by have x : w.heap.size = w.heap.size + 1 := x; omega)
          have kc4 := hF4.cell kc1 (fun o _ (x : OnB (w.heap.size + 1) g o) => by have x : g = w.heap.size + 1 := x; omega)
          have hx4 : At W4 xa 16 (rkey nw key xi) := fun h0 => by
            obtain ⟨b0, o0, e0, hc0⟩ := Hx2.out h0
            exact ⟨b0, o0, e0, fun j hj => hF4.cell ((Ht.out.2.2.cell (p := ⟨b0, o0 + j, none⟩) (by have := HT.out; have := World.block_lt_of_cell? W _ (hc0 j hj); simp at this; show b0 < T; omega)).trans (hc0 j hj)) (fun o _ (x : OnB (w.heap.size + 1) b0 o) => hne _ e0 x)⟩
          have H4 := Lib.hid (And.intro hs4 (And.intro hF4 hx4))
          clear hW4 hs4 hF4 hx4 kb1 kc1
          have hW14 : Fr (OnB (w.heap.size + 1)) W W4 := ((Fr.of_below (Ht.out.2.2.mono (by have := HT.out; omega) : Below W.heap.size W wr)) : Fr (OnB (w.heap.size + 1)) W wr).trans H4.out.2.1
          have HW14 := Lib.hid hW14
          have hw6 : IntKind.i64.wrap ((nw : Int) + 7 - 1) = nw + 6 := by rw [show (nw : Int) + 7 - 1 = nw + 6 by omega]; exact wrap_i64 (by omega) (by omega)
          clear hW14
          by_cases hl6 : xi < nw + 6
          · have hl7 : (xi : Int) < nw + 6 := by omega
            have hmix : Calls Try.prog 49 #[.pointer (some ⟨w.heap.size + 1, 0, none⟩), .agg #[.int .u8 2, .int .u8 3, .int .u8 1, .int .u8 1]] W4 _ := mix_any (m := mFwd) H4.out.1
            have Hl6 := Lib.hid hl6
            clear hl6
            gi_wp2_with (first
              | (refine ⟨trivial, ?_⟩; gi_at_call 49; refine (calls_round l hmix).mono ?_; rintro e W5 ⟨rfl, hs5, hf5⟩; have hadd := add_any hs5 xa 16 xc (by omega) (H4.out.2.2.fr hf5 (fun a _ ha x => hne a ha x)) hne; have HF5 := Lib.hid (HW14.out.trans hf5); clear hs5 hf5 hmix)
              | (refine ⟨trivial, ?_⟩; gi_at_call 50; refine (calls_round l hadd).mono ?_; rintro e W9 ⟨rfl, hs9, hf9⟩))
            refine Hfin.out W9 ?_ (frC (HF5.out.trans hf9) HS.out.1)
            rw [Hstep.out]
            simp only [if_pos Hl6.out]
            exact hs9
          · have hl7 : ¬ (xi : Int) < nw + 6 := by omega
            have hadd := add_any H4.out.1 xa 16 xc (by omega) H4.out.2.2 hne
            have Hl6 := Lib.hid hl6
            clear hl6
            gi_wp2_with (first
              | (refine ⟨trivial, ?_⟩; gi_at_call 50; refine (calls_round l hadd).mono ?_; rintro e W9 ⟨rfl, hs9, hf9⟩))
            refine Hfin.out W9 ?_ (frC (HW14.out.trans hf9) HS.out.1)
            rw [Hstep.out]
            simp only [if_neg Hl6.out]
            exact hs9
  case done =>
    rintro D xs W hD hxs ⟨hs, hp, hb, hlow⟩ hDo
    rw [show xs.length = nw + 7 from hxs] at hs
    have HH := Lib.hid (And.intro hs hlow)
    clear hs hp hb hlow hxs
    gi_wp2
    refine ⟨by simp, .inl ⟨_, _, rfl, run_takeDeferred hDo, ?_⟩⟩
    refine ⟨_, results_tmp rfl _ _ _, ?_⟩
    exact ⟨w.heap.size + 1, rfl, by omega, HH.out.1.kc (kc_put hDo rfl), HH.out.2.trans (belowK_b (w := w) (Nat.le_refl _) W D _ _ (by omega) hDo rfl rfl)⟩
  case stop =>
    rintro D c pre W _ _ h _
    exact h.elim
end Go.Proofs.Ytmilanicedjhmaa
