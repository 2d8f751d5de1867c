/- Contracts: a key's cipher. No condition beyond each theorem's own. -/
import Derived.Test.YtmilanicedjhmaaF6
import Derived.Test.YtmilanicedjhmaaP4
import Derived.Test.YtmilanicedjhmaaG1
import Derived.Deep.CutBlock
import Derived.Great.BuildSlice
import Derived.StillTailTactics
namespace Go.Proofs.Ytmilanicedjhmaa
open Go.RowKit
set_option linter.unusedSimpArgs false

set_option maxRecDepth 100000 in
theorem new_no (A : Option Addr) (n c : Nat) (w : World) (h : n ≠ 16 ∧ n ≠ 24 ∧ n ≠ 32) : Calls Try.prog 16 #[.slice A n c] w fun e w' => e = .returned (.pointer none) ∧ w = w' := by
  obtain ⟨h1, h2, h3⟩ := h
  have k1 : ((n : Int) != 16) = true := by simp; omega
  have k2 : ((n : Int) != 24) = true := by simp; omega
  have k3 : ((n : Int) != 32) = true := by simp; omega
  go_enter Try.func16, Try.ntmps16
  go_wp2
  go_ret
  exact ⟨rfl, rfl⟩

/-- The cells of a new cipher. -/
theorem zero62 : Try.zeroCells62 = ccells (.slice none 0 0) (List.replicate 256 0) (tab 256 fun _ => 0) := by kernel_rfl

theorem own_some {w : World} {base : Nat} {e : TypeId} {size : Nat} {v : Value} {n : Nat} {xs : List Value} (h : w.ownsRow base e size v n xs) (hn : 0 < n) : ∃ g c, v = .slice (some ⟨g, 0, none⟩) n c ∧ base ≤ g ∧ n ≤ c ∧ g < w.heap.size := by
  rcases h.2 with ⟨_, h0⟩ | ⟨g, cap, cur, rfl, hb, hh, hnc, _⟩
  · omega
  · exact ⟨g, cap, rfl, hb, hnc, (Array.getElem?_eq_some_iff.1 hh).1⟩
theorem slice_lh {w : World} {b o n c lo hi : Nat} {l h : Int} (hl : l = lo) (hh : h = hi) (h1 : lo ≤ hi) (h2 : hi ≤ c) (h3 : lo < c) :
    (Instr.slice 22 (.slice (some ⟨b, o, none⟩) n c) (some (.int .i64 l)) (some (.int .i64 h)) none).run Try.prog w = .ok (.slice (some ⟨b, o + lo, none⟩) (hi - lo) (c - lo)) w := by
  subst hl; subst hh
  rw [run_slice_lh w 22 _ n c Try.underlying22 .i64 .i64 lo hi (by omega) (by omega) (by omega)]
  obtain ⟨i0, hi0, hz0, hz1, hz2⟩ := info_parts info5
  have he : Try.prog.elem 22 = 5 := by kernel_rfl
  simp only [he, sizeOf, typeInfo, Sem.run_bind, run_program, Result.andThen_ok, hi0, Sem.run_pure, hz1, Int.toNat_natCast, sliced]
  rw [if_neg (by omega)]
  simp [addr_add]
theorem arr63 (w : World) (a : Addr) (c : Nat) : (Instr.arrayAt 63 (.slice (some a) 4 c)).run Try.prog w = .ok (.pointer (some a)) w := by
  simp [Instr.arrayAt, go_sem, run_underlying Try.underlying63]
theorem arr65 (w : World) (a : Addr) (c : Nat) : (Instr.arrayAt 65 (.slice (some a) 16 c)).run Try.prog w = .ok (.pointer (some a)) w := by
  simp [Instr.arrayAt, go_sem, run_underlying Try.underlying65]
theorem four_eq {f : Nat → UInt8} {a b c d : UInt8} (h0 : f 0 = a) (h1 : f 1 = b) (h2 : f 2 = c) (h3 : f 3 = d) : (#[B8 a, B8 b, B8 c, B8 d] : Array Value) = brow (tab 4 f) := by
  subst h0 h1 h2 h3
  rfl
theorem below_new {w w1 w2 : World} {B g : Nat} (h : Below B w w1) (hF : Fr (OnB g) w1 w2) (hg : B ≤ g := by omega) (hB : B ≤ w1.heap.size := by simp) : Below B w w2 :=
  h.trans ⟨hF.os, hF.tape, hF.output, hF.size, fun k hk => by
    have e : w1.heap[k]? = some w1.heap[k] := Array.getElem?_eq_getElem (by omega)
    rw [e]
    exact hF.block k _ e (fun x => by have x : k = g := x; omega)⟩
theorem tab_take_succ {n : Nat} (f : Nat → UInt8) {r : Nat} (h : r < n) : (tab n f).take (r + 1) = (tab n f).take r ++ [f r] := by
  rw [List.take_succ_eq_append_getElem (by simpa using h)]
  simp [tab]
theorem index63_ (w : World) (cs : Array Value) (k : Nat) (x : UInt8) (hk : k < 4) (hx : cs[k]? = some (B8 x)) : (Instr.index 63 (.agg cs) (.int .i64 (k : Int))).run Try.prog w = .ok (B8 x) w := by
  obtain ⟨i0, hi, hz0, hz1, hz2⟩ := info_parts info5
  simp [Instr.index, go_sem, run_underlying Try.underlying63, sizeOf, typeInfo, hi, hz1, Try.underlying5, hk, hx]
theorem index63 (w : World) (f : Nat → UInt8) {r : Nat} (hr : r < 4) : (Instr.index 63 (.agg #[B8 (f 0), B8 (f 1), B8 (f 2), B8 (f 3)]) (.int .i64 (r : Int))).run Try.prog w = .ok (B8 (f r)) w :=
  index63_ w _ r _ hr (brow_tab 4 f hr)
theorem own_below {w w' : World} {base : Nat} {e : TypeId} {size : Nat} {v : Value} {n : Nat} {xs : List Value} (h : w.ownsRow base e size v n xs) (hb : Below w.heap.size w w') : w'.ownsRow base e size v n xs :=
  h.kept (row := none) ⟨hb.os, hb.tape, hb.output, hb.size, fun k hk _ => hb.block k hk⟩ (Classical.em _)
theorem own_blk_ne {w : World} {base : Nat} {e : TypeId} {size n : Nat} {v : Value} {xs : List Value} {g : Nat} {t : TypeId} {cs : Array Value} (h : w.ownsRow base e size v n xs) (hg : Blk w g t cs) (hne : e ≠ t) : v.ownBlock ≠ some g := by
  rcases h.2 with ⟨rfl, _⟩ | ⟨g', cap, cur, rfl, _, hh, _⟩
  · simp [Value.ownBlock]
  · intro he
    have : g' = g := by simpa [Value.ownBlock] using he
    subst this
    exact Blk.ne_ (t := e) hh hg hne rfl
theorem own_ge {w : World} {base : Nat} {e : TypeId} {size n : Nat} {v : Value} {xs : List Value} (h : w.ownsRow base e size v n xs) : ∀ k, v.ownBlock = some k → base ≤ k := by
  intro k hk
  rcases h.2 with ⟨rfl, _⟩ | ⟨g', cap, cur, rfl, hb, hh, _⟩
  · cases hk
  · have : g' = k := by simpa [Value.ownBlock] using hk
    omega
/-- What an append of something new keeps. -/
theorem keep_app {w0 wx w3 : World} {e : TypeId} {size : Nat} {v : Value} {n : Nat} {xs : List Value} {o : Obj} {g : Nat} {t : TypeId} {cs : Array Value} (ho : wx.ownsRow w0.heap.size e size v n xs) (hc : Blk wx g t cs) (ht : e ≠ t)
    (hlow : Below w0.heap.size w0 wx) (hg : (wx.alloc o).grownBy w3 v.ownBlock) : Blk w3 g t cs ∧ Below w0.heap.size w0 w3 :=
  ⟨(hg.block g (hc.alloc o).lt (own_blk_ne ho hc ht).symm).trans (hc.alloc o), (hlow.alloc hlow.size o).grown hg (by have := hlow.size; simp; omega) (own_ge ho)⟩
theorem info65 : (Try.prog.info? 65).map (fun i => (i.zero, i.size, i.bytes)) = some (some (.agg (brow (tab 16 fun _ => 0))), 16, 16) := by kernel_rfl
theorem size65 : (Try.prog.info? 65).map (·.size) = some 16 := by kernel_rfl
theorem range_own {w : World} {base : Nat} {e : TypeId} {g n c : Nat} {l : List UInt8} (h : w.ownsRow base e 1 (.slice (some ⟨g, 0, none⟩) n c) n (l.map B8)) (o k : Nat) : w.rangeAt g o (((l.drop o).take k).map B8) := fun j v hv => by
  have := h.cells (g := g) rfl (o + j) v (by
    rw [List.getElem?_map] at hv ⊢
    rw [List.getElem?_take] at hv
    split at hv
    · rw [List.getElem?_drop] at hv; exact hv
    · cases hv)
  rwa [addr_add, Nat.zero_add] at this
theorem reads_blk {w : World} {g : Nat} {t : TypeId} {cs : List Value} (h : Blk w g t cs.toArray) {n size : Nat} (hn : cs.length = n * size) : Reads w (g + 1) size (some ⟨g, 0, none⟩) n cs :=
  ⟨hn, fun _ => ⟨_, rfl, Nat.lt_succ_self _, fun j u hu => by
    rw [addr_add, Nat.zero_add, h.cell]
    simpa using hu⟩⟩
theorem foldl_set (l : List Value) : ∀ (k : Nat) (a : Array Value), a.size = k + l.length → (l.zipIdx k).foldl (fun cs x => cs.setIfInBounds x.2 x.1) a = ⟨a.toList.take k ++ l⟩ := by
  induction l with
  | nil => intro k a h; simp at h; subst h; apply Array.ext'; simp only [List.append_nil]; exact (List.take_of_length_le (by simp)).symm
  | cons x l ih =>
    intro k a h
    rw [List.zipIdx_cons, List.foldl_cons, ih (k + 1) _ (by simp at h ⊢; omega)]
    simp only [List.length_cons] at h
    congr 1
    have hk : k < a.toList.length := by simp; omega
    simp only [Array.toList_setIfInBounds]
    rw [List.take_succ_eq_append_getElem (by simpa using hk)]
    simp [List.take_set_of_le]
theorem fill16 (cs : List Value) (h : cs.length = 16) : Instr.fill (fun i => some (i * 16, 16)) ((Array.range (1 * 16)).map ((Value.agg (brow (tab 16 fun _ => 0))).cells[· % (Value.agg (brow (tab 16 fun _ => 0))).cells.size]!)) [(0, .agg cs.toArray)] = some cs.toArray := by
  simp [Instr.fill, Value.cells, h]
  have := foldl_set cs 0 ((Array.range (1 * 16)).map ((Value.agg (brow (tab 16 fun _ => 0))).cells[· % (Value.agg (brow (tab 16 fun _ => 0))).cells.size]!)) (by simp [h])
  simpa [Value.cells] using this
theorem build59 (w : World) (cs : List Value) (h : cs.length = 16) : (Instr.buildSlice 59 1 #[(0, .agg cs.toArray)]).run Try.prog w = .ok (.slice (some ⟨w.heap.size, 0, none⟩) 1 1) (w.alloc (.cells cs.toArray 65)) := by
  obtain ⟨i0, hi, hz0, hz1, hz2⟩ := info_parts info65
  exact run_buildSlice w 59 65 1 _ cs.toArray i0 _ Try.underlying59 hi hz0 (by rw [hz1]; omega) (by rw [hz1]; omega) (by rw [hz1]; exact fill16 cs h)
theorem step_build59 {w : World} {ops : Array Oper} {o : Oper} {a : Act} {K : Act → World → Prop} {Q : Exit → Act → World → Prop} {E : Prop} (hgd : o.guard = none) (x : Operand) (ho : o.op = .buildSlice 59 1 #[(0, x)])
    (cs : List Value) (hx : a.eval x = .agg cs.toArray) (hl : cs.length = 16) (h : K (a.put o.dst (.slice (some ⟨w.heap.size, 0, none⟩) 1 1)) (w.alloc (.cells cs.toArray 65))) : if Region.wanted o (yielded ops a.tmps) = true then Oper.wp Try.prog o a w K Q else E := by
  rw [if_pos (by simp [Region.wanted, hgd])]
  unfold Oper.wp execOp
  simp only [ho, List.map_toArray, List.map_cons, List.map_nil, hx, build59 w cs hl, Sem.run_bind, Sem.run_pure, Result.andThen_ok]
  exact h
theorem own_set {w : World} {base : Nat} {e : TypeId} {size n : Nat} {v : Value} {xs : List Value} {g : Nat} {t : TypeId} {cs : Array Value} (h : w.ownsRow base e size v n xs) (hg : Blk w g t cs) (hne : e ≠ t) (i : Nat) (u : Value) : (w.setCell ⟨g, i, none⟩ u).ownsRow base e size v n xs :=
  h.kept (row := some g) ⟨rfl, rfl, rfl, by simp [World.setCell], fun k _ hk => Below.heap_setCell w ⟨g, i, none⟩ u k (fun e => hk (by rw [e]))⟩ (.inr (own_blk_ne h hg hne))
theorem own_ne {w : World} {base base' : Nat} {e e' : TypeId} {size size' n n' : Nat} {v v' : Value} {xs xs' : List Value} (h : w.ownsRow base e size v n xs) (h' : w.ownsRow base' e' size' v' n' xs') (hne : e ≠ e') : v.ownBlock = none ∨ v.ownBlock ≠ v'.ownBlock := by
  rcases h.2 with ⟨rfl, _⟩ | ⟨g, cap, cur, rfl, _, hh, _⟩
  · exact .inl rfl
  · rcases h'.2 with ⟨rfl, _⟩ | ⟨g', cap', cur', rfl, _, hh', _⟩
    · exact .inr (by simp [Value.ownBlock])
    · refine .inr fun he => ?_
      have he : g = g' := by simpa [Value.ownBlock] using he
      subst he
      rw [hh] at hh'
      injection hh' with hh'
      injection hh' with _ ht
      exact hne ht
/-- A cipher in memory: its round keys lie in one block of arrays. -/
def PC (w : World) (g gk : Nat) (nw : Nat) (key : List UInt8) : Prop :=
  ∃ kc, nw + 7 ≤ kc ∧ Blk w g 62 (ccells (.slice (some ⟨gk, 0, none⟩) (nw + 7) kc) (tab 256 sbox) (tab 256 (tboxTo 256))) ∧ ∀ k j, k < nw + 7 → j < 16 → w.cell? ⟨gk, k * 16 + j, none⟩ = some (B8 (rkey nw key k j))

/-- A new cipher of a key of 4 * nw bytes. -/
def NewC (w : World) (nw : Nat) (key : List UInt8) (e : Ending) (w' : World) : Prop :=
  ∃ g gk, e = .returned (.pointer (some ⟨g, 0, none⟩)) ∧ w.heap.size ≤ g ∧ w.heap.size ≤ gk ∧ PC w' g gk nw key ∧ Below w.heap.size w w'

set_option maxRecDepth 100000 in
set_option maxHeartbeats 8000000 in
theorem new_some (A : Option Addr) (c nw : Nat) (key : List UInt8) (w : World) (hw : nw = 4 ∨ nw = 6 ∨ nw = 8) (hB : Bytes w A (4 * nw) key) : Calls Try.prog 16 #[.slice A (4 * nw) c] w (NewC w nw key) := by
  go_enter Try.func16, Try.ntmps16
  go_upto_region 1 with fail
  go_cut [3] from 12 to 14 (fun v wx => v = .int .i64 nw ∧ wx = w)
  case first =>
    rcases hw with rfl | rfl | rfl <;>
    · go_wp2
      go_meet
      exact ⟨rfl, rfl⟩
  case rest =>
    obtain ⟨rfl, rfl⟩ := hcut
    go_upto_region 2 with fail
    go_cut [27] from 15 to 27 (fun v wx => v = .bool false ∧ wx = wc)
    case first =>
      rcases hw with rfl | rfl | rfl <;>
      · go_wp2
        go_meet
        exact ⟨rfl, rfl⟩
    case rest =>
      obtain ⟨rfl, rfl⟩ := hcut
      obtain ⟨w0, rfl⟩ : ∃ w0 : World, w0 = wc := ⟨_, rfl⟩
      have hn0 : Blk (w0.alloc (.cells Try.zeroCells62 62)) w0.heap.size 62 (ccells (.slice none 0 0) (List.replicate 256 0) (tab 256 fun _ => 0)) := zero62 ▸ Blk.new w0 62 _
      have hb0 := (Below.refl w0.heap.size w0).alloc (Nat.le_refl _) (.cells Try.zeroCells62 62)
      have HB := Lib.hid hB
      clear hB
      go_wp2_with (first
        | (go_at_call 45; refine (tables_any hn0).mono ?_; rintro e w2 ⟨rfl, hc2, hF2⟩; have hlow2 : Below w0.heap.size w0 w2 := below_new hb0 hF2; have hB2 := HB.out.below hlow2; have hsz2 := hlow2.size; clear hn0 hb0)
        | (at_builtin; refine wpList_append_bytes _ rfl (.const (.slice none 0 0)) (.tmp 32) 22 rfl w0.heap.size 5 Try.underlying22 info5 (.slice none 0 0) 0 [] rfl (World.ownsRow_nil _ _ _ _) A (4 * nw) c key rfl hB2 (by omega) hsz2 ?_; intro v3 w3 hown hg hat))
      rw [Nat.zero_add, List.nil_append] at hown
      have hlow3 : Below w0.heap.size w0 w3 := hlow2.grown hg hsz2 (fun k e => by simp [Value.ownBlock] at e)
      have hc3 : Blk w3 w0.heap.size 62 (ccells (.slice none 0 0) (tab 256 sbox) (tab 256 (tboxTo 256))) := (hg.block w0.heap.size hc2.lt (fun e => by simp [Value.ownBlock] at e)).trans hc2
      clear hc2 hF2 hlow2 hB2 hsz2 hg hat
      go_loopw [5, 6, 7] (fun vw vr vi wr => ∃ k : Nat, k ≤ 3 * nw + 28 ∧ vi = .int .i64 ((nw : Int) + k) ∧ vr = B8 (kExp nw key k).1 ∧ wr.ownsRow w0.heap.size 5 1 vw (4 * (nw + k)) ((kExp nw key k).2.map B8) ∧
        Blk wr w0.heap.size 62 (ccells (.slice none 0 0) (tab 256 sbox) (tab 256 (tboxTo 256))) ∧ Below w0.heap.size w0 wr) (fun _ _ vi _ => 4 * nw + 28 - (intOf vi).toNat)
      case atStart => exact ⟨0, by omega, by simp, rfl, hown, hc3, hlow3⟩
      case round =>
        obtain ⟨k, hk, rfl, rfl, ho, hc, hlow⟩ := hrel
        clear hown hc3 hlow3
        by_cases hlt : k < 3 * nw + 28
        · obtain ⟨gw, cap, rfl, hgw, hcap, hgl⟩ := own_some ho (by omega)
          have hlen := kExp_len nw key HB.out.1 k
          have hcell : ∀ j, j < 4 * (nw + k) → wr.cell? ⟨gw, j, none⟩ = some (B8 ((kExp nw key k).2.getD j 0)) := fun j hj => by
            have := ho.cells (g := gw) rfl j (B8 ((kExp nw key k).2.getD j 0)) (by simp [hlen, hj])
            rwa [addr_add, Nat.zero_add] at this
          have hnw1 : 4 ≤ nw := by omega
          have hnw2 : nw ≤ 8 := by omega
          obtain ⟨i, hi⟩ : ∃ i, i = nw + k := ⟨_, rfl⟩
          rw [show ((nw : Int) + k) = (i : Int) by omega]
          rw [← hi] at hlen hcell hcap ho ⊢
          have hi4 : 4 ≤ i := by omega
          have hi5 : i < 4 * nw + 28 := by omega
          have Ho := Lib.hid ho
          have Hc := Lib.hid hc
          have Hlow := Lib.hid hlow
          generalize hW : kExp nw key k = ks at Ho hlen hcell ⊢
          have HW := Lib.hid hW
          have hsl := slice_lh (w := wr) (b := gw) (o := 0) (n := 4 * i) (c := cap) (lo := 4 * i - 4) (hi := 4 * i) (l := 4 * (i : Int) - 4) (h := 4 * (i : Int)) (by omega) (by omega) (by omega) (by omega) (by omega)
          rw [Nat.zero_add, show 4 * i - (4 * i - 4) = 4 by omega] at hsl
          have t0 := hcell (4 * i - 4) (by omega)
          have t1 := hcell (4 * i - 4 + 1) (by omega)
          have t2 := hcell (4 * i - 4 + 2) (by omega)
          have t3 := hcell (4 * i - 4 + 3) (by omega)
          generalize hx0 : ks.2.getD (4 * i - 4) 0 = x0 at t0
          generalize hx1 : ks.2.getD (4 * i - 4 + 1) 0 = x1 at t1
          generalize hx2 : ks.2.getD (4 * i - 4 + 2) 0 = x2 at t2
          generalize hx3 : ks.2.getD (4 * i - 4 + 3) 0 = x3 at t3
          have HX := Lib.hid (And.intro hx0 (And.intro hx1 (And.intro hx2 hx3)))
          clear hx0 hx1 hx2 hx3
          have hw1 : IntKind.i64.wrap (4 * (i : Int)) = 4 * i := wrap_i64 (by omega) (by omega)
          have hw2 : IntKind.i64.wrap (4 * (i : Int) - 4) = 4 * i - 4 := wrap_i64 (by omega) (by omega)
          have hw3 : IntKind.i64.wrap ((nw : Int) + 7) = nw + 7 := wrap_i64 (by omega) (by omega)
          have hw4 : IntKind.i64.wrap (4 * ((nw : Int) + 7)) = 4 * (nw + 7) := wrap_i64 (by omega) (by omega)
          have hlt2 : (i : Int) < 4 * (nw + 7) := by omega
          have Hi := Lib.hid (And.intro hi (And.intro hk hlt))
          clear ho hc hlow hW hcell hlt hk hi
          have harr := arr63 wr ⟨gw, 4 * i - 4, none⟩ (cap - (4 * i - 4))
          go_upto_block 2 with fail
          go_cut [6] from 51 to 126 (fun vr wx => vr = B8 (if i % nw = 0 then xt ks.1 else ks.1) ∧ Blk wx wr.heap.size 63 (brow (tab 4 (kT nw i ks.1 ks.2))) ∧ Below wr.heap.size wr wx)
          case first =>
            have hT : Blk (wr.alloc (.cells #[B8 x0, B8 x1, B8 x2, B8 x3] 63)) wr.heap.size 63 #[B8 x0, B8 x1, B8 x2, B8 x3] := Blk.new wr 63 _
            have hcg := Hc.out.lt
            have box : ∀ x : UInt8, (wr.alloc (.cells #[B8 x0, B8 x1, B8 x2, B8 x3] 63)).cell? ⟨w0.heap.size, 1 + x.toNat, none⟩ = some (B8 (S8 x)) := fun x => by
              have h := (Hc.out.alloc (.cells #[B8 x0, B8 x1, B8 x2, B8 x3] 63)).cell (1 + x.toNat)
              rw [ccells_box _ _ _ (by simp) x.toNat_lt, tab_getD _ x.toNat_lt] at h
              exact h
            have l0 : (x0.toNat : Int) < 256 := by have := x0.toNat_lt; omega
            have l1 : (x1.toNat : Int) < 256 := by have := x1.toNat_lt; omega
            have l2 : (x2.toNat : Int) < 256 := by have := x2.toNat_lt; omega
            have l3 : (x3.toNat : Int) < 256 := by have := x3.toNat_lt; omega
            have hF := (Below.refl wr.heap.size wr).alloc (Nat.le_refl _) (.cells #[B8 x0, B8 x1, B8 x2, B8 x3] 63)
            have hm1 : ((i : Int) % (nw : Int)) = ((i % nw : Nat) : Int) := by omega
            have hm2 : ((i : Int).tmod (nw : Int)) = ((i % nw : Nat) : Int) := by rw [Int.tmod_eq_emod_of_nonneg (by omega)]; exact hm1
            obtain ⟨q, hq⟩ : ∃ q, q = i % nw := ⟨_, rfl⟩
            rw [← hq] at hm1 hm2
            have HQ := Lib.hid hq
            clear hq
            by_cases h0 : q = 0
            · rw [h0] at hm1 hm2
              have hkq : i % nw = 0 := HQ.out ▸ h0
              have Hkq := Lib.hid hkq
              clear hkq
              obtain ⟨y0, hy0⟩ : ∃ y, y = S8 x1 ^^^ ks.1 := ⟨_, rfl⟩
              have hx := xor_walk (S8 x1) ks.1
              rw [← hy0] at hx
              have Hy := Lib.hid hy0
              clear hy0
              go_upto_region 13 with fail
              obtain ⟨W1, hW1⟩ : ∃ W1, W1 = (wr.alloc (.cells #[B8 x0, B8 x1, B8 x2, B8 x3] 63)).drew := ⟨_, rfl⟩
              refine wp_region_still_tail 31 (by kernel_rfl) (by kernel_rfl) ?_
              simp only [List.take_succ_cons, List.take_zero, List.drop_succ_cons, List.drop_zero]
              have k0 : W1.cell? ⟨wr.heap.size, 0, none⟩ = some (B8 x0) := by rw [hW1]; exact hT.cell 0
              have k1 : W1.cell? ⟨wr.heap.size, 1, none⟩ = some (B8 x1) := by rw [hW1]; exact hT.cell 1
              have k2 : W1.cell? ⟨wr.heap.size, 2, none⟩ = some (B8 x2) := by rw [hW1]; exact hT.cell 2
              have k3 : W1.cell? ⟨wr.heap.size, 3, none⟩ = some (B8 x3) := by rw [hW1]; exact hT.cell 3
              have bx0 : W1.cell? ⟨w0.heap.size, 1 + x0.toNat, none⟩ = some (B8 (S8 x0)) := by rw [hW1]; exact box x0
              have bx1 : W1.cell? ⟨w0.heap.size, 1 + x1.toNat, none⟩ = some (B8 (S8 x1)) := by rw [hW1]; exact box x1
              have bx2 : W1.cell? ⟨w0.heap.size, 1 + x2.toNat, none⟩ = some (B8 (S8 x2)) := by rw [hW1]; exact box x2
              have bx3 : W1.cell? ⟨w0.heap.size, 1 + x3.toNat, none⟩ = some (B8 (S8 x3)) := by rw [hW1]; exact box x3
              clear box
              change wpStill Try.prog _ (wr.alloc (.cells #[B8 x0, B8 x1, B8 x2, B8 x3] 63)).drew _ _ _
              rw [← hW1]
              have HW1 := Lib.hid hW1
              clear hW1
              repeat still_step
              refine wpStill_nil ?_
              clear k0 k1 k2 k3 bx0 bx1 bx2 bx3
              change wpList Try.prog _ _ _ _ (wr.alloc (.cells #[B8 x0, B8 x1, B8 x2, B8 x3] 63)).drew
              clear HW1
              go_wp2_with (go_at_call 46; refine (twice_any _ _).mono ?_; rintro e w' ⟨rfl, rfl⟩)
              go_meet
              obtain ⟨g0, g1, g2, g3⟩ := HX.out
              refine ⟨by rw [← HQ.out, if_pos h0], ?_, ((Below.refl wr.heap.size wr).alloc (Nat.le_refl _) _).drew⟩
              rw [← four_eq (f := kT nw i ks.1 ks.2) (a := y0) (b := S8 x2) (c := S8 x3) (d := S8 x0) (by rw [Hy.out, ← g1]; simp [kT, Hkq.out]) (by rw [← g2]; simp [kT, Hkq.out]) (by rw [← g3]; simp [kT, Hkq.out]) (by rw [← g0]; simp [kT, Hkq.out])]
              exact (Blk.new wr 63 _).drew
            · have e0 : (q : Int) ≠ 0 := by omega
              have b0 : ((q : Int) == 0) = false := by rw [beq_eq_false_iff_ne]; exact e0
              by_cases h4 : 6 < nw ∧ q = 4
              · obtain ⟨h6, h4⟩ := h4
                obtain rfl : nw = 8 := by omega
                have Hk4 := Lib.hid (HQ.out ▸ h4 : i % 8 = 4)
                rw [h4] at hm1 hm2 b0 e0
                have b4 : (((4 : Nat) : Int) == 4) = true := rfl
                go_upto_region 16 with fail
                obtain ⟨W1, hW1⟩ : ∃ W1, W1 = (wr.alloc (.cells #[B8 x0, B8 x1, B8 x2, B8 x3] 63)).drew := ⟨_, rfl⟩
                refine wp_region_still_tail 29 (by kernel_rfl) (by kernel_rfl) ?_
                simp only [List.take_succ_cons, List.take_zero, List.drop_succ_cons, List.drop_zero]
                have k0 : W1.cell? ⟨wr.heap.size, 0, none⟩ = some (B8 x0) := by rw [hW1]; exact hT.cell 0
                have k1 : W1.cell? ⟨wr.heap.size, 1, none⟩ = some (B8 x1) := by rw [hW1]; exact hT.cell 1
                have k2 : W1.cell? ⟨wr.heap.size, 2, none⟩ = some (B8 x2) := by rw [hW1]; exact hT.cell 2
                have k3 : W1.cell? ⟨wr.heap.size, 3, none⟩ = some (B8 x3) := by rw [hW1]; exact hT.cell 3
                have bx0 : W1.cell? ⟨w0.heap.size, 1 + x0.toNat, none⟩ = some (B8 (S8 x0)) := by rw [hW1]; exact box x0
                have bx1 : W1.cell? ⟨w0.heap.size, 1 + x1.toNat, none⟩ = some (B8 (S8 x1)) := by rw [hW1]; exact box x1
                have bx2 : W1.cell? ⟨w0.heap.size, 1 + x2.toNat, none⟩ = some (B8 (S8 x2)) := by rw [hW1]; exact box x2
                have bx3 : W1.cell? ⟨w0.heap.size, 1 + x3.toNat, none⟩ = some (B8 (S8 x3)) := by rw [hW1]; exact box x3
                clear box
                change wpStill Try.prog _ (wr.alloc (.cells #[B8 x0, B8 x1, B8 x2, B8 x3] 63)).drew _ _ _
                rw [← hW1]
                have HW1 := Lib.hid hW1
                clear hW1
                repeat still_step
                refine wpStill_nil ?_
                clear k0 k1 k2 k3 bx0 bx1 bx2 bx3
                change wpList Try.prog _ _ _ _ (wr.alloc (.cells #[B8 x0, B8 x1, B8 x2, B8 x3] 63)).drew
                clear HW1
                go_wp2
                go_meet
                obtain ⟨g0, g1, g2, g3⟩ := HX.out
                refine ⟨by rw [← HQ.out, if_neg h0], ?_, ((Below.refl wr.heap.size wr).alloc (Nat.le_refl _) _).drew⟩
                rw [← four_eq (f := kT 8 i ks.1 ks.2) (a := S8 x0) (b := S8 x1) (c := S8 x2) (d := S8 x3) (by rw [← g0]; simp [kT, Hk4.out]) (by rw [← g1]; simp [kT, Hk4.out]) (by rw [← g2]; simp [kT, Hk4.out]) (by rw [← g3]; simp [kT, Hk4.out])]
                exact (Blk.new wr 63 _).drew
              · clear box
                have hKT : ∀ r, kT nw i ks.1 ks.2 r = ks.2.getD (4 * i - 4 + r) 0 := fun r => by
                  unfold kT
                  rw [← HQ.out, if_neg h0, if_neg h4]
                have HKT := Lib.hid hKT
                have Hn0 := Lib.hid h0
                have H4 := Lib.hid h4
                clear hKT h0 h4 e0
                by_cases h8 : nw = 8
                · subst h8
                  have h4 : ¬ q = 4 := fun e => H4.out ⟨by omega, e⟩
                  have b4 : ((q : Int) == 4) = false := by rw [beq_eq_false_iff_ne]; omega
                  clear h4
                  go_wp2
                  go_meet
                  obtain ⟨g0, g1, g2, g3⟩ := HX.out
                  refine ⟨by rw [← HQ.out, if_neg Hn0.out], ?_, hF⟩
                  rw [← four_eq (f := kT 8 i ks.1 ks.2) (a := x0) (b := x1) (c := x2) (d := x3) (by rw [← g0, HKT.out]; rfl) (by rw [← g1, HKT.out]) (by rw [← g2, HKT.out]) (by rw [← g3, HKT.out])]
                  exact hT
                · have h6 : ¬ (6 : Int) < nw := by omega
                  have d6 : decide ((6 : Int) < nw) = false := by simpa using h6
                  clear h8
                  go_wp2
                  go_meet
                  obtain ⟨g0, g1, g2, g3⟩ := HX.out
                  refine ⟨by rw [← HQ.out, if_neg Hn0.out], ?_, hF⟩
                  rw [← four_eq (f := kT nw i ks.1 ks.2) (a := x0) (b := x1) (c := x2) (d := x3) (by rw [← g0, HKT.out]; rfl) (by rw [← g1, HKT.out]) (by rw [← g2, HKT.out]) (by rw [← g3, HKT.out])]
                  exact hT
          case rest =>
            obtain ⟨rfl, hT, hlT⟩ := hcut
            have hkw : ∀ r, r < 4 → (kWord nw i ks.1 ks.2).take (r + 1) = (kWord nw i ks.1 ks.2).take r ++ [ks.2.getD (4 * (i - nw) + r) 0 ^^^ kT nw i ks.1 ks.2 r] := fun r hr => by
              unfold kWord
              rw [tab_take_succ _ hr]
            obtain ⟨f, hf⟩ : ∃ f, f = kT nw i ks.1 ks.2 := ⟨_, rfl⟩
            rw [← hf] at hT hkw
            have hkl : (kWord nw i ks.1 ks.2).length = 4 := by simp [kWord]
            generalize hkv : kWord nw i ks.1 ks.2 = kv at hkw hkl
            have HKW := Lib.hid (And.intro hkw (And.intro hkl hkv))
            clear hf hkw hkl hkv
            have c0 := hT.cell 0
            have c1 := hT.cell 1
            have c2 := hT.cell 2
            have c3 := hT.cell 3
            rw [brow_tab 4 f (by omega)] at c0 c1 c2 c3
            have hix := fun w r (hr : r < 4) => index63 w f hr
            have Hix := Lib.hid hix
            clear hix hT
            have ho0 := Ho.out
            have ho1 : wc.ownsRow w0.heap.size 5 1 (.slice (some ⟨gw, 0, none⟩) (4 * i) cap) (4 * i) ((ks.2 ++ kv.take 0).map B8) := by
              rw [List.take_zero, List.append_nil]
              exact own_below ho0 hlT
            have hc1 : Blk wc w0.heap.size 62 (ccells (.slice none 0 0) (tab 256 sbox) (tab 256 (tboxTo 256))) := Hc.out.below hlT Hc.out.lt
            have hlow1 : Below w0.heap.size w0 wc := Hlow.out.trans (hlT.mono Hlow.out.size)
            have HS := Lib.hid (And.intro ho1 (And.intro hc1 hlow1))
            clear ho0 ho1 hc1 hlow1 hlT
            obtain ⟨rc, hrc⟩ : ∃ rc, rc = if i % nw = 0 then xt ks.1 else ks.1 := ⟨_, rfl⟩
            rw [← hrc]
            have Hrc := Lib.hid hrc
            clear hrc
            go_wp2
            clear c0 c1 c2 c3
            go_loopw [5, 128] (fun vw vj wx => ∃ r : Nat, r ≤ 4 ∧ vj = .int .i64 r ∧ wx.ownsRow w0.heap.size 5 1 vw (4 * i + r) ((ks.2 ++ kv.take r).map B8) ∧
              Blk wx w0.heap.size 62 (ccells (.slice none 0 0) (tab 256 sbox) (tab 256 (tboxTo 256))) ∧ Below w0.heap.size w0 wx) (fun _ vj _ => 4 - (intOf vj).toNat)
            case atStart => exact ⟨0, by omega, rfl, HS.out.1, HS.out.2.1, HS.out.2.2⟩
            case round =>
              obtain ⟨r, hr4, rfl, ho, hc, hlow⟩ := hrel
              by_cases hlr : r < 4
              · have hri : (r : Int) < 4 := by omega
                obtain ⟨gx, capx, rfl, hgx, hcapx, hgxl⟩ := own_some ho (by omega)
                have hlk := HKW.out.2.1
                have hcl := ho.cells (g := gx) rfl (4 * k + r) (B8 (ks.2.getD (4 * k + r) 0)) (by
                  have h1 : 4 * k + r < ks.2.length := by have := Hi.out.1; omega
                  rw [List.getElem?_map, List.getElem?_append_left h1]
                  simp [h1])
                rw [addr_add, Nat.zero_add] at hcl
                have hx := xor_walk (ks.2.getD (4 * k + r) 0) (f r)
                have hkr := HKW.out.1 r hlr
                rw [show i - nw = k by have := Hi.out.1; omega] at hkr
                generalize ks.2.getD (4 * k + r) 0 ^^^ f r = z at hx hkr
                generalize ks.2.getD (4 * k + r) 0 = y at hcl hx
                have hk1 : (i : Int) - nw = k := by have := Hi.out.1; omega
                have hb1 : (4 : Int) * k + r < 4 * i + r := by have := Hi.out.1; omega
                have hk2 : k ≤ 52 := by have := Hi.out.2; omega
                have hidx := Hix.out wr r hlr
                have HO := Lib.hid ho
                have HC := Lib.hid hc
                have HL := Lib.hid hlow
                have Hkr := Lib.hid hkr
                have hz : Bytes (wr.alloc (.cells #[B8 z] 5)) (some ⟨wr.heap.size, 0, none⟩) 1 [z] := brow_bytes (l := [z]) (Blk.new wr 5 _)
                have Hz := Lib.hid hz
                clear ho hc hlow hkr hlk hz
                go_wp2_with (first
                  | (at_builtin; refine wpList_append_bytes _ rfl (.tmp 132) (.tmp 144) 22 rfl w0.heap.size 5 Try.underlying22 info5 _ (4 * i + r) _ rfl (World.ownsRow.alloc HO.out _) (some ⟨wr.heap.size, 0, none⟩) 1 1 [z] rfl Hz.out (by omega) (by have := HL.out.size; simp; omega) ?_; intro v9 w9 hown hg hat))
                obtain ⟨hc9, hl9⟩ := keep_app HO.out HC.out (by decide) HL.out hg
                exact ⟨⟨r + 1, by omega, by go_num, by rw [Hkr.out, ← List.append_assoc]; exact hown, hc9, hl9⟩, by simp [intOf]; omega⟩
              · obtain rfl : r = 4 := by omega
                have hke : kExp nw key (k + 1) = (rc, ks.2 ++ kv) := by
                  have e1 := Hi.out.1
                  have e2 := HKW.out.2.2
                  rw [kExp, HW.out]
                  simp only [← e1]
                  rw [e2, Hrc.out]
                rw [List.take_of_length_le (by have := HKW.out.2.1; omega)] at ho
                have HE := Lib.hid (And.intro hke (And.intro ho (And.intro hc hlow)))
                clear hke ho hc hlow
                go_wp2
                obtain ⟨e1, e2, e3⟩ := Hi.out
                exact ⟨⟨k + 1, by omega, by rw [show (i : Int) + 1 = nw + ((k + 1 : Nat) : Int) by omega], by rw [HE.out.1], by rw [HE.out.1, show 4 * (nw + (k + 1)) = 4 * i + 4 by omega]; exact HE.out.2.1, HE.out.2.2.1, HE.out.2.2.2⟩, by simp [intOf]; omega⟩
        · have hk2 : k = 3 * nw + 28 := by omega
          have hall : (kExp nw key k).2 = kAll nw key := by rw [hk2]; rfl
          rw [hall, show 4 * (nw + k) = 16 * (nw + 7) by omega] at ho
          have hln := kAll_len nw key HB.out.1
          obtain ⟨gw, cap, rfl, hgw, hcap, hgl⟩ := own_some ho (by omega)
          have hnw1 : 4 ≤ nw := by omega
          have hnw2 : nw ≤ 8 := by omega
          have hw3 : IntKind.i64.wrap ((nw : Int) + 7) = nw + 7 := wrap_i64 (by omega) (by omega)
          have hw4 : IntKind.i64.wrap (4 * ((nw : Int) + 7)) = 4 * (nw + 7) := wrap_i64 (by omega) (by omega)
          have hlt2 : ¬ (nw : Int) + k < 4 * (nw + 7) := by omega
          have HE := Lib.hid (And.intro hln (And.intro ho (And.intro hc hlow)))
          generalize (kExp nw key k).1 = rc
          clear hall hln ho hc hlow hk2 hlt hk
          clear hw
          go_wp2
          go_loopw [11] (fun vi wx => ∃ (m : Nat) (kvv : Value), m ≤ nw + 7 ∧ vi = .int .i64 (16 * (m : Int)) ∧ wx.ownsRow w0.heap.size 65 16 kvv m (((kAll nw key).take (16 * m)).map B8) ∧
            wx.ownsRow w0.heap.size 5 1 (.slice (some ⟨gw, 0, none⟩) (16 * (nw + 7)) cap) (16 * (nw + 7)) ((kAll nw key).map B8) ∧
            Blk wx w0.heap.size 62 (ccells kvv (tab 256 sbox) (tab 256 (tboxTo 256))) ∧ Below w0.heap.size w0 wx) (fun vi _ => 16 * (nw + 7) - (intOf vi).toNat)
          case atStart => exact ⟨0, .slice none 0 0, by omega, rfl, by simpa using World.ownsRow_nil _ _ _ _, HE.out.2.1, HE.out.2.2.1, HE.out.2.2.2⟩
          case round =>
            obtain ⟨m, kvv, hm, rfl, hok, how, hc, hlow⟩ := hrel
            by_cases hlt : m < nw + 7
            · have hi1 : (16 : Int) * m + 16 ≤ 16 * (nw + 7) := by omega
              have C0 := hc.cell 0
              rw [ccells_zero] at C0
              have F0 := hc.frozen 0
              have R0 := range_own how (16 * m) 16
              have hl16 : ((((kAll nw key).drop (16 * m)).take 16).map B8).length = 16 := by
                have := HE.out.1
                simp
                omega
              have h1c := oneCell_map (((kAll nw key).drop (16 * m)).take 16)
              have htk : (((kAll nw key).take (16 * m)).map B8) ++ (((kAll nw key).drop (16 * m)).take 16).map B8 = ((kAll nw key).take (16 * (m + 1))).map B8 := by
                rw [← List.map_append, ← List.take_add, Nat.mul_succ]
              obtain ⟨cs, hcs⟩ : ∃ cs, cs = (((kAll nw key).drop (16 * m)).take 16).map B8 := ⟨_, rfl⟩
              rw [← hcs] at R0 hl16 h1c htk
              have hi65 : (Try.prog.info? 65).map (·.size) = some cs.length := by rw [hl16]; exact size65
              have hlc : (⟨w0.heap.size, 0, none⟩ : Addr).block < wr.drew.heap.size := hc.lt
              have Hl := Lib.hid (And.intro hl16 (And.intro h1c (And.intro htk hcs)))
              have Hi65 := Lib.hid hi65
              have harr := fun w => arr65 w ⟨gw, 16 * m, none⟩ (cap - 16 * m)
              have hsl : ∀ w : World, _ := fun w => slice_lh (w := w) (b := gw) (o := 0) (n := 16 * (nw + 7)) (c := cap) (lo := 16 * m) (hi := 16 * m + 16) (l := 16 * (m : Int)) (h := 16 * (m : Int) + 16) (by omega) (by omega) (by omega) (by omega) (by omega)
              rw [Nat.zero_add, show 16 * m + 16 - 16 * m = 16 by omega] at hsl
              have hw5 : IntKind.i64.wrap (16 * (m : Int) + 16) = 16 * m + 16 := wrap_i64 (by omega) (by omega)
              have HH := Lib.hid (And.intro hok (And.intro how (And.intro hc hlow)))
              clear hok how hc hlow hl16 h1c htk hcs hi65
              go_upto_region 25 with fail
              have hi65 := Hi65.out
              obtain ⟨i0, hi0, hz0, hz1, hz2⟩ := info_parts info65
              refine wp_region_noPanic ?_
              refine wp_region_T (fun w' => w'.cell? ⟨w0.heap.size, 0, none⟩ = some kvv ∧ w'.frozen? ⟨w0.heap.size, 0, none⟩ = false ∧ w'.rangeAt gw (16 * m) cs) [16] (by kernel_rfl) ?_ (fun hHeld => ?_)
              · exact ⟨C0, F0, R0⟩
              refine wpAnyT_take (i := 0) (v := ?_) (by simp only [List.getElem?_toArray, List.getElem?_cons_zero, List.getElem?_cons_succ]; rfl) (by kernel_rfl) (by kernel_rfl) (by kernel_rfl) (by kernel_rfl) (by kernel_rfl) (fun _ _ _ h => h) (Or.inl ⟨by rfl, ?_⟩) (by assumption) ?_
              rotate_left
              · intro w hSw; (try dsimp only at hSw); go_simp; try (with_reducible rfl)
              try simp only [Act.put, List.setIfInBounds_toArray, List.set_cons_zero, List.set_cons_succ]
              refine wpAnyT_take (i := 1) (v := ?_) (by simp only [List.getElem?_toArray, List.getElem?_cons_zero, List.getElem?_cons_succ]; rfl) (by kernel_rfl) (by kernel_rfl) (by kernel_rfl) (by kernel_rfl) (by kernel_rfl) (fun _ _ _ h => h) (Or.inl ⟨by rfl, ?_⟩) (by assumption) ?_
              rotate_left
              · intro w hSw; (try dsimp only at hSw); go_simp; try (with_reducible rfl)
              try simp only [Act.put, List.setIfInBounds_toArray, List.set_cons_zero, List.set_cons_succ]
              refine wpAnyT_take (i := 2) (v := ?_) (by simp only [List.getElem?_toArray, List.getElem?_cons_zero, List.getElem?_cons_succ]; rfl) (by kernel_rfl) (by kernel_rfl) (by kernel_rfl) (by kernel_rfl) (by kernel_rfl) (fun _ _ _ h => h) (Or.inl ⟨by rfl, ?_⟩) (by assumption) ?_
              rotate_left
              · intro w hSw; (try dsimp only at hSw); go_simp; try (with_reducible rfl)
              try simp only [Act.put, List.setIfInBounds_toArray, List.set_cons_zero, List.set_cons_succ]
              refine wpAnyT_take (i := 3) (v := ?_) (by simp only [List.getElem?_toArray, List.getElem?_cons_zero, List.getElem?_cons_succ]; rfl) (by kernel_rfl) (by kernel_rfl) (by kernel_rfl) (by kernel_rfl) (by kernel_rfl) (fun _ _ _ h => h) (Or.inl ⟨by rfl, ?_⟩) (by assumption) ?_
              rotate_left
              · intro w hSw; (try dsimp only at hSw); go_simp; try (with_reducible rfl)
              try simp only [Act.put, List.setIfInBounds_toArray, List.set_cons_zero, List.set_cons_succ]
              refine wpAnyT_take (i := 4) (v := ?_) (by simp only [List.getElem?_toArray, List.getElem?_cons_zero, List.getElem?_cons_succ]; rfl) (by kernel_rfl) (by kernel_rfl) (by kernel_rfl) (by kernel_rfl) (by kernel_rfl) (fun _ _ _ h => h) (Or.inl ⟨by rfl, ?_⟩) (by assumption) ?_
              rotate_left
              · intro w hSw; (try dsimp only at hSw); go_simp; try (with_reducible rfl)
              try simp only [Act.put, List.setIfInBounds_toArray, List.set_cons_zero, List.set_cons_succ]
              refine wpAnyT_take (i := 5) (v := ?_) (by simp only [List.getElem?_toArray, List.getElem?_cons_zero, List.getElem?_cons_succ]; rfl) (by kernel_rfl) (by kernel_rfl) (by kernel_rfl) (by kernel_rfl) (by kernel_rfl) (fun _ _ _ h => h) (Or.inl ⟨by rfl, ?_⟩) (by assumption) ?_
              rotate_left
              · intro w hSw; (try dsimp only at hSw); go_simp; try (with_reducible rfl)
              try simp only [Act.put, List.setIfInBounds_toArray, List.set_cons_zero, List.set_cons_succ]
              refine wpAnyT_take (i := 6) (v := ?_) (by simp only [List.getElem?_toArray, List.getElem?_cons_zero, List.getElem?_cons_succ]; rfl) (by kernel_rfl) (by kernel_rfl) (by kernel_rfl) (by kernel_rfl) (by kernel_rfl) (fun _ _ _ h => h) (Or.inl ⟨by rfl, ?_⟩) (by assumption) ?_
              rotate_left
              · intro w hSw; (try dsimp only at hSw); go_simp; try (with_reducible rfl)
              try simp only [Act.put, List.setIfInBounds_toArray, List.set_cons_zero, List.set_cons_succ]
              refine wpAnyT_take (i := 7) (v := ?_) (by simp only [List.getElem?_toArray, List.getElem?_cons_zero, List.getElem?_cons_succ]; rfl) (by kernel_rfl) (by kernel_rfl) (by kernel_rfl) (by kernel_rfl) (by kernel_rfl) (fun _ _ _ h => h) (Or.inl ⟨by rfl, ?_⟩) (by assumption) ?_
              rotate_left
              · intro w hSw; (try dsimp only at hSw); go_simp; try (with_reducible rfl)
              try simp only [Act.put, List.setIfInBounds_toArray, List.set_cons_zero, List.set_cons_succ]
              refine wpAnyT_take (i := 8) (v := ?_) (by simp only [List.getElem?_toArray, List.getElem?_cons_zero, List.getElem?_cons_succ]; rfl) (by kernel_rfl) (by kernel_rfl) (by kernel_rfl) (by kernel_rfl) (by kernel_rfl) (fun _ _ _ h => h) (Or.inl ⟨by rfl, ?_⟩) (by assumption) ?_
              rotate_left
              · intro w hSw; (try dsimp only at hSw); go_simp; try (with_reducible rfl)
              try simp only [Act.put, List.setIfInBounds_toArray, List.set_cons_zero, List.set_cons_succ]
              refine wpAnyT_take (i := 9) (v := ?_) (by simp only [List.getElem?_toArray, List.getElem?_cons_zero, List.getElem?_cons_succ]; rfl) (by kernel_rfl) (by kernel_rfl) (by kernel_rfl) (by kernel_rfl) (by kernel_rfl) (fun _ _ _ h => h) (Or.inl ⟨by rfl, ?_⟩) (by assumption) ?_
              rotate_left
              · intro w hSw; (try dsimp only at hSw); go_simp; try (with_reducible rfl)
              try simp only [Act.put, List.setIfInBounds_toArray, List.set_cons_zero, List.set_cons_succ]
              refine wpAnyT_take (i := 10) (v := ?_) (by simp only [List.getElem?_toArray, List.getElem?_cons_zero, List.getElem?_cons_succ]; rfl) (by kernel_rfl) (by kernel_rfl) (by kernel_rfl) (by kernel_rfl) (by kernel_rfl) (fun _ _ _ h => h) (Or.inl ⟨by rfl, ?_⟩) (by assumption) ?_
              rotate_left
              · intro w hSw; (try dsimp only at hSw); go_simp; try (with_reducible rfl)
              try simp only [Act.put, List.setIfInBounds_toArray, List.set_cons_zero, List.set_cons_succ]
              refine wpAnyT_take (i := 11) (by simp only [List.getElem?_toArray, List.getElem?_cons_zero, List.getElem?_cons_succ]; rfl) (by kernel_rfl) (by kernel_rfl) (by kernel_rfl) (by kernel_rfl) (by kernel_rfl) (fun _ _ _ h => h) (yieldsIf_load_mid (by rfl) 65 (.tmp 164) rfl gw (16 * m) rfl cs _ (fun w h => h.2.2) Try.underlying65 rfl hi65) (by assumption) ?_
              try simp only [Act.put, List.setIfInBounds_toArray, List.set_cons_zero, List.set_cons_succ]
              refine wpAnyT_ready (rs := [12]) (by kernel_rfl) (by simp) (AllReadyT.cons (by simp only [List.getElem?_toArray, List.getElem?_cons_zero, List.getElem?_cons_succ]; rfl) (fun K hK => ?_) AllReadyT.nil)
              refine step_build59 rfl (.tmp 165) rfl cs rfl Hl.out.1 ?_
              refine hK.out _ _ ?_ (fun hHeld => ?_)
              · exact ⟨by rw [World.cell?_alloc_lt _ _ _ hlc]; exact hHeld.1, by rw [World.frozen?_alloc_past _ _ _ hlc]; exact hHeld.2.1, World.rangeAt_alloc hHeld.2.2 _⟩
              clear hK K
              try simp only [Act.put, List.setIfInBounds_toArray, List.set_cons_zero, List.set_cons_succ]
              refine wpAnyT_ready (rs := [13]) (by kernel_rfl) (by simp) (AllReadyT.cons (by simp only [List.getElem?_toArray, List.getElem?_cons_zero, List.getElem?_cons_succ]; rfl) (fun K hK => ?_) AllReadyT.nil)
              refine step_append_any _ rfl (.tmp 158) (.tmp 166) 59 rfl w0.heap.size 65 i0 _ 16 16 Try.underlying59 hi0 hz0 hz1 hz2 rfl (by omega) kvv m _ rfl ((World.ownsRow.drew HH.out.1).alloc _) _ (some ⟨wr.heap.size, 0, none⟩) 1 1 cs rfl (reads_blk (Blk.new _ 65 _) (by rw [Hl.out.1])) Hl.out.2.1 (by unfold maxLen; omega) (by omega) (by have := HH.out.2.2.2.size; simp; omega) ?_
              intro v9 w9 hown hg hat
              obtain ⟨hc9, hl9⟩ := keep_app (wx := wr.drew) (World.ownsRow.drew HH.out.1) HH.out.2.2.1.drew (by decide) HH.out.2.2.2.drew hg
              have how9 := ((World.ownsRow.drew HH.out.2.1).alloc (.cells cs.toArray 65)).kept hg (own_ne HH.out.2.1 HH.out.1 (by decide))
              obtain ⟨g9, c9, rfl, hg9, hc9l, -⟩ := own_some hown (by omega)
              have C9 := hc9.cell 0
              rw [ccells_zero] at C9
              have F9 := hc9.frozen 0
              have R9 : w9.rangeAt gw (16 * m) cs := Hl.out.2.2.2 ▸ range_own how9 (16 * m) 16
              have H9 := Lib.hid (And.intro hown (And.intro how9 (And.intro hc9 hl9)))
              clear hown how9 hc9 hl9 hg hat
              refine hK.out _ _ ?_ (fun hHeld => ?_)
              · exact ⟨C9, F9, R9⟩
              clear hK K
              try simp only [Act.put, List.setIfInBounds_toArray, List.set_cons_zero, List.set_cons_succ]
              refine wpAnyT_ready (rs := [14]) (by kernel_rfl) (by simp) (AllReadyT.cons (by simp only [List.getElem?_toArray, List.getElem?_cons_zero, List.getElem?_cons_succ]; rfl) (fun K hK => ?_) AllReadyT.nil)
              go_simp
              refine hK.out _ _ ?_ (fun hHeld => ?_)
              · exact hHeld
              clear hK K
              try simp only [Act.put, List.setIfInBounds_toArray, List.set_cons_zero, List.set_cons_succ]
              refine wpAnyT_take (i := 15) (v := ?_) (by simp only [List.getElem?_toArray, List.getElem?_cons_zero, List.getElem?_cons_succ]; rfl) (by kernel_rfl) (by kernel_rfl) (by kernel_rfl) (by kernel_rfl) (by kernel_rfl) (fun _ _ _ h => h) (Or.inl ⟨by rfl, ?_⟩) (by assumption) ?_
              rotate_left
              · intro w hSw; (try dsimp only at hSw); go_simp; try (with_reducible rfl)
              try simp only [Act.put, List.setIfInBounds_toArray, List.set_cons_zero, List.set_cons_succ]
              refine wpAnyT_ready (rs := [16]) (by kernel_rfl) (by simp) (AllReadyT.store (by simp only [List.getElem?_toArray, List.getElem?_cons_zero, List.getElem?_cons_succ]; rfl) (by simp) (fun K hK => ?_) AllReadyT.nil)
              go_simp
              refine hK.out _ _ ?_
              clear hK K
              try simp only [Act.put, List.setIfInBounds_toArray, List.set_cons_zero, List.set_cons_succ]
              refine wpAnyT_done (by kernel_rfl) ?_ _
              refine NoPanic.normal ?_
              clear hHeld C9 F9 R9 C0 F0 R0
              go_wp2
              obtain ⟨hown, how9, hc9, hl9⟩ := H9.out
              refine ⟨⟨m + 1, .slice (some ⟨g9, 0, none⟩) (m + 1) c9, by omega, by rw [show (16 : Int) * m + 16 = 16 * ((m + 1 : Nat) : Int) by omega], ?_, own_set how9 hc9 (by decide) 0 _, ?_, hl9.setCell (p := ⟨w0.heap.size, 0, none⟩) (Nat.le_refl _) _⟩, by simp [intOf]; omega⟩
              · rw [← Hl.out.2.2.1]
                exact own_set hown hc9 (by decide) 0 _
              · have h9 := hc9.set_ 0 (.slice (some ⟨g9, 0, none⟩) (m + 1) c9)
                rw [ccells_set_keys] at h9
                exact h9
            · obtain rfl : m = nw + 7 := by omega
              have hnl : ¬ (16 : Int) * ((nw + 7 : Nat) : Int) + 16 ≤ 16 * (nw + 7) := by omega
              obtain ⟨gk, kc, rfl, hgk, hkc, -⟩ := own_some hok (by omega)
              have hcl := hok.cells (g := gk) rfl
              have HH := Lib.hid (And.intro hcl (And.intro hc hlow))
              clear hcl hok how hc hlow hlt hm
              go_wp2
              go_ret
              have hln := HE.out.1
              have hkey : ∀ k j, k < nw + 7 → j < 16 → wr.cell? ⟨gk, k * 16 + j, none⟩ = some (B8 (rkey nw key k j)) := fun k j hk hj => by
                have h1 := HH.out.1 (k * 16 + j) (B8 (rkey nw key k j)) (by
                  have h2 : k * 16 + j < (kAll nw key).length := by omega
                  rw [List.getElem?_map, List.take_of_length_le (by omega), List.getElem?_eq_getElem h2, rkey, show 16 * k + j = k * 16 + j by omega]
                  simp [h2])
                rwa [addr_add, Nat.zero_add] at h1
              exact ⟨w0.heap.size, gk, rfl, Nat.le_refl _, hgk, ⟨kc, hkc, HH.out.2.1, hkey⟩, HH.out.2.2⟩
end Go.Proofs.Ytmilanicedjhmaa
