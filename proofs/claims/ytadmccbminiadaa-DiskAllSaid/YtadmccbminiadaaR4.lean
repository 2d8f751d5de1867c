/- Contracts of the reference's device: a new one. No condition beyond each theorem's own. -/
import Derived.Test.YtadmccbminiadaaR3
import Derived.Deep.RegionLaw
import Derived.Deep.DeepCutAuto
namespace Go.Proofs.Ytadmccbminiadaa
open Go.RowKit

theorem info4 : (Try.prog.info? 4).map (fun i => (i.zero, i.size, i.bytes)) = some (some (.bool false), 1, 1) := by kernel_rfl
theorem info31 : (Try.prog.info? 31).map (fun i => (i.zero, i.size, i.bytes)) = some (some (.slice none 0 0), 1, 24) := by kernel_rfl
/-- n falses. -/
def wrow (n : Nat) : Array Value := madeCells #[.bool false] (n * 1)
theorem madeWets (w : World) (n : Nat) (hn : n ≤ 65536) :
    (Instr.makeSlice 32 (.int .i64 (n : Int)) (.int .i64 (n : Int))).run Try.prog w = .ok (.slice (some ⟨w.heap.size, 0, none⟩) n n) (w.alloc (.cells (wrow n) 4)) := by
  obtain ⟨i0, hi, hz0, hz1, hz2⟩ := info_parts info4
  have h := run_make (P := Try.prog) w 32 4 i0 _ Try.underlying32 hi hz0 .i64 .i64 n n (by omega) (by omega) (by rw [hz2]; omega) (by omega)
  rw [h]
  simp only [Int.toNat_natCast, hz1]
  rfl
theorem wrow_wets {w : World} {g n : Nat} (h : Blk w g 4 (wrow n)) : Wets w g n (fun _ => false) := by
  refine ⟨_, h, fun i hi => ?_⟩
  unfold wrow madeCells
  simp [hi, Nat.mod_one]

def hdr (f : Nat → SH) (k : Nat) : List Value := (List.range k).map fun i => .slice (f i).a (f i).n (f i).c
theorem hdr_succ (f : Nat → SH) (k : Nat) : hdr f (k + 1) = hdr f k ++ [.slice (f k).a (f k).n (f k).c] := by simp [hdr, List.range_succ]
theorem hdr_upd (f : Nat → SH) (k : Nat) (x : SH) : hdr (upd f k x) (k + 1) = hdr f k ++ [.slice x.a x.n x.c] := by
  rw [hdr_succ]
  congr 1
  · unfold hdr
    apply List.map_congr_left
    intro i hi
    have : i ≠ k := by have := List.mem_range.1 hi; omega
    simp [upd, this]
  · simp [upd]
/-- A row of headers that the call owns, and what they read. -/
def Heads (w : World) (base : Nat) (v : Value) (k : Nat) : Prop := ∃ f : Nat → SH, w.ownsRow base 31 1 v k (hdr f k) ∧ ∀ i, i < k → Sect w (f i) zero256
theorem heads_nil (w : World) (base : Nat) : Heads w base (.slice none 0 0) 0 := ⟨fun _ => ⟨none, 0, 0⟩, World.ownsRow_nil _ _ _ _, fun i hi => absurd hi (by omega)⟩
theorem Heads.fr {S : Nat → Obj → Prop} {w w' : World} {base k : Nat} {v : Value} (h : Heads w base v k) (hf : Fr S w w') (h31 : ∀ g c f, v.ownBlock = some g → ¬ S g (.cells c 31 f)) (h5 : ∀ k c f, ¬ S k (.cells c 5 f)) : Heads w' base v k := by
  obtain ⟨f, ⟨h1, h2⟩, h3⟩ := h
  refine ⟨f, ⟨h1, ?_⟩, fun i hi => (h3 i hi).fr hf h5⟩
  rcases h2 with h2 | ⟨g, cap, cur, rfl, a, b, c⟩
  · exact .inl h2
  · exact .inr ⟨g, cap, cur, rfl, a, hf.block _ _ b (h31 g _ _ rfl), c⟩
theorem Heads.below {w w' : World} {base k : Nat} {v : Value} (h : Heads w base v k) (hb : Below w.heap.size w w') : Heads w' base v k :=
  h.fr (S := No) (Fr.of_below hb) (fun _ _ _ _ => id) (fun _ _ _ => id)

/-- What a new device is while it is made. -/
structure Making (w0 w : World) (h gw n k k' : Nat) (vs vn : Value) : Prop where
  head : Blk w h 41 #[vs, vn, .slice (some ⟨gw, 0, none⟩) n n, .int .i64 (-1), .int .i64 0]
  safe : Heads w w0.heap.size vs k
  now : Heads w w0.heap.size vn k'
  ne : ∀ g, vs.ownBlock = some g → vn.ownBlock ≠ some g
  wets : Wets w gw n (fun _ => false)
  below : Below w0.heap.size w0 w
  hh : w0.heap.size ≤ h
  sv : ∃ a m c, vs = .slice a m c
  nv : ∃ a m c, vn = .slice a m c

def RNewOk (w : World) (n : Nat) (e : Ending) (w' : World) : Prop :=
  ∃ h gs gn gw, e = .returned (.pointer (some ⟨h, 0, none⟩)) ∧ w.heap.size ≤ h ∧ w.heap.size ≤ gs ∧ w.heap.size ≤ gn ∧ w.heap.size ≤ gw ∧ RD w' h gs gn gw (DS.new n) ∧ Below w.heap.size w w'

theorem rnew_no (n : Int) (w : World) (h : n < 1 ∨ 65536 < n) : Calls Try.prog 9 #[.int .i64 n] w fun e w' => e = .returned (.pointer none) ∧ w = w' := by
  by_cases h1 : n < 1
  · go_enter Try.func9, Try.ntmps9
    go_wp2
    go_ret
    exact ⟨rfl, rfl⟩
  · have h2 : 65536 < n := by omega
    go_enter Try.func9, Try.ntmps9
    go_wp2
    go_ret
    exact ⟨rfl, rfl⟩

theorem own_ne {w : World} {base : Nat} {e t : TypeId} {size n g : Nat} {v : Value} {xs : List Value} {cs : Array Value} (h : w.ownsRow base e size v n xs) (hg : Blk w g t cs) (hne : e ≠ t) : v.ownBlock ≠ some g := by
  rcases h.2 with ⟨rfl, _⟩ | ⟨g', cap, cur, rfl, _, hh, _⟩
  · simp [Value.ownBlock]
  · intro he
    have : g' = g := by simpa [Value.ownBlock] using he
    subst this
    exact Blk.ne_ (t := e) hh hg hne rfl
theorem Blk.grown_ {w w' : World} {g : Nat} {t : TypeId} {cs : Array Value} {row : Option Nat} (h : Blk w g t cs) (hb : w.grownBy w' row) (hg : row ≠ some g) : Blk w' g t cs := (hb.block g h.lt (fun e => hg e.symm)).trans h
theorem own_some {w : World} {base : Nat} {e : TypeId} {v : Value} {n : Nat} {xs : List Value} (h : w.ownsRow base e 1 v (n + 1) xs) : ∃ g c, v = .slice (some ⟨g, 0, none⟩) (n + 1) c := by
  obtain ⟨g, cap, hv, _, _⟩ := h.form (by omega)
  exact ⟨g, cap, hv⟩
theorem new_two (w : World) (o : Obj) (t : TypeId) (x : Value) : Reads ((w.alloc o).alloc (.cells #[x] t)).drew (w.heap.size + 2) 1 (some ⟨w.heap.size + 1, 0, none⟩) 1 [x] := by
  refine ⟨rfl, fun _ => ⟨_, rfl, by simp, fun j u hu => ?_⟩⟩
  cases j with
  | zero => cases hu; rw [addr_add, cell_of_row _ _ _ _ _ _ (show ((w.alloc o).alloc (.cells #[x] t)).drew.heap[w.heap.size + 1]? = _ from heap_alloc2_new w o (.cells #[x] t))]; rfl
  | succ j => cases hu

theorem own_spine {w : World} {base n : Nat} {v : Value} {f : Nat → SH} (h : w.ownsRow base 31 1 v n (hdr f n)) (hn : 0 < n) :
    ∃ g c, v = .slice (some ⟨g, 0, none⟩) n c ∧ base ≤ g ∧ Spine w g n f ∧ n ≤ c := by
  rcases h.2 with ⟨_, hx⟩ | ⟨g, cap, cur, hv, hb, hh, hnc, _, hsz, ht⟩
  · have := h.1; rw [hx] at this; simp at this; omega
  · refine ⟨g, cap, hv, hb, ⟨cur, hh, fun i hi => ?_⟩, hnc⟩
    have e : (List.take (n * 1) cur.toList)[i]? = (hdr f n)[i]? := by rw [ht]
    rw [List.getElem?_take, if_pos (by omega)] at e
    rw [← Array.getElem?_toList, e]
    simp [hdr, hi]
def Z5 : Obj := .cells (zrow 256) 5
def Z31 (b : Nat) : Obj := .cells #[.slice (some ⟨b, 0, none⟩) 256 256] 31
/-- A header more. -/
theorem heads_more {base k gv cv : Nat} {wr w1 : World} {f : Nat → SH} {v other : Value} {k' : Nat}
    (hfd : ∀ i, i < k → Sect wr (f i) zero256) (hown0 : wr.ownsRow base 31 1 v k (hdr f k)) (ho : Heads wr base other k') (hne : ∀ g, v.ownBlock = some g → other.ownBlock ≠ some g) 
    (hown : w1.ownsRow base 31 1 (.slice (some ⟨gv, 0, none⟩) (k + 1) cv) (k + 1) (hdr f k ++ [.slice (some ⟨wr.heap.size, 0, none⟩) 256 256]))
    (hg : ((wr.alloc Z5).alloc (Z31 wr.heap.size)).drew.grownBy w1 v.ownBlock) (hat : some gv = v.ownBlock ∨ gv = wr.heap.size + 2) :
    Heads w1 base (.slice (some ⟨gv, 0, none⟩) (k + 1) cv) (k + 1) ∧ Heads w1 base other k' ∧ (other.ownBlock ≠ some gv) ∧ Fr (fun g o => some g = v.ownBlock ∧ Ty [31] g o) wr w1 := by
  have hb0 : Below wr.heap.size wr ((wr.alloc Z5).alloc (Z31 wr.heap.size)).drew := (((Below.refl _ wr).alloc (Nat.le_refl _) _).alloc (by simp) _).drew
  have hF : Fr (fun g o => some g = v.ownBlock ∧ Ty [31] g o) wr w1 := by
    refine ⟨hg.os.trans hb0.os, hg.tape.trans hb0.tape, hg.output.trans hb0.output, Nat.le_trans hb0.size hg.size, fun i o hi hS => ?_⟩
    have hlt := lt_of_heap hi
    have e1 := (hb0.block i hlt).trans hi
    rw [hg.block i (Nat.lt_of_lt_of_le hlt hb0.size) (fun e => ?_)]
    · exact e1
    · apply hS
      refine ⟨e, ?_⟩
      rcases hown0.2 with ⟨rfl, _⟩ | ⟨g', cap, cur, rfl, _, hh, _⟩
      · cases e
      · have e' : i = g' := by simpa [Value.ownBlock] using e
        subst e'
        rw [hh] at hi; cases hi
        exact ⟨_, _, _, rfl, by simp⟩
  have h5 : ∀ k c f, ¬ (fun g o => some g = v.ownBlock ∧ Ty [31] g o) k (.cells c 5 f) := fun _ _ _ x => ty_not (by simp) x.2
  have hz : Sect w1 ⟨some ⟨wr.heap.size, 0, none⟩, 256, 256⟩ zero256 := by
    have hb : Blk ((wr.alloc Z5).alloc (Z31 wr.heap.size)).drew wr.heap.size 5 (zrow 256) := heap_alloc2_old wr _ _
    have hb1 : Blk w1 wr.heap.size 5 (zrow 256) := (hg.block _ hb.lt (fun e => by
      rcases hown0.2 with ⟨rfl, _⟩ | ⟨g', cap, cur, rfl, _, hh, _⟩
      · cases e
      · have e' : wr.heap.size = g' := by simpa [Value.ownBlock] using e
        have := lt_of_heap hh; omega)).trans hb
    exact ⟨rfl, rfl, zrow_bytes hb1, hb1.ty5⟩
  refine ⟨⟨upd f k ⟨some ⟨wr.heap.size, 0, none⟩, 256, 256⟩, by rw [hdr_upd]; exact hown, fun i hi => ?_⟩, ho.fr hF (fun g c fr hv x => hne g x.1.symm hv) h5, ?_, hF⟩
  · by_cases e : i = k
    · subst e; simp only [upd, if_pos]; exact hz
    · simp only [upd, if_neg e]; exact (hfd i (by omega)).fr hF h5
  · rcases hat with hat | hat
    · exact hne gv hat.symm
    · obtain ⟨f', h1, _⟩ := ho
      intro e
      have := (h1.lt gv e).2
      omega

theorem making_safe {w wr w1 : World} {h gw n k k' gv cv : Nat} {f : Nat → SH} {vs vn : Value} (hM : Making w wr h gw n k k' vs vn)
    (hfd : ∀ i, i < k → Sect wr (f i) zero256) (hown0 : wr.ownsRow w.heap.size 31 1 vs k (hdr f k))
    (hown : w1.ownsRow w.heap.size 31 1 (.slice (some ⟨gv, 0, none⟩) (k + 1) cv) (k + 1) (hdr f k ++ [.slice (some ⟨wr.heap.size, 0, none⟩) 256 256]))
    (hg : ((wr.alloc Z5).alloc (Z31 wr.heap.size)).drew.grownBy w1 vs.ownBlock) (hat : some gv = vs.ownBlock ∨ gv = wr.heap.size + 2) :
    Making w (w1.setCell ⟨h, 0, none⟩ (.slice (some ⟨gv, 0, none⟩) (k + 1) cv)) h gw n (k + 1) k' (.slice (some ⟨gv, 0, none⟩) (k + 1) cv) vn := by
  obtain ⟨a1, a2, a3, hF⟩ := heads_more hfd hown0 hM.now hM.ne hown hg hat
  have hh : Blk w1 h 41 _ := hM.head.fr hF (fun x => ty_not (by simp) x.2)
  have hF2 : Fr (On h 41) w1 (w1.setCell ⟨h, 0, none⟩ (.slice (some ⟨gv, 0, none⟩) (k + 1) cv)) := (Fr.refl _ _).setIn (fun o ho => by
    rw [show w1.heap[h]? = _ from hh] at ho; cases ho; exact on_mk _ _) _
  have hbl : Below w.heap.size w w1 := hM.below.trans (below_of_fr hF (fun g o x => by
    rcases hown0.2 with ⟨rfl, _⟩ | ⟨g', cap, cur, rfl, hb, _, _⟩
    · cases x.1
    · have e' : g = g' := by simpa [Value.ownBlock] using x.1
      omega) hM.below.size)
  exact ⟨hh.set_ 0 _, a1.fr hF2 (fun _ _ _ _ => on_not (by decide)) (fun _ _ _ => on_not (by decide)), a2.fr hF2 (fun _ _ _ _ => on_not (by decide)) (fun _ _ _ => on_not (by decide)),
    (fun g e e2 => a3 (by simp [Value.ownBlock] at e; rw [e2, e])), (hM.wets.fr hF (fun _ _ x => ty_not (by simp) x.2)).fr hF2 (fun _ _ => on_not (by decide)), hbl.setCell (p := ⟨h, _, none⟩) hM.hh _, hM.hh, ⟨_, _, _, rfl⟩, hM.nv⟩

theorem making_now {w wr w1 : World} {h gw n k k' gv cv : Nat} {f : Nat → SH} {vs vn : Value} (hM : Making w wr h gw n k' k vs vn)
    (hfd : ∀ i, i < k → Sect wr (f i) zero256) (hown0 : wr.ownsRow w.heap.size 31 1 vn k (hdr f k))
    (hown : w1.ownsRow w.heap.size 31 1 (.slice (some ⟨gv, 0, none⟩) (k + 1) cv) (k + 1) (hdr f k ++ [.slice (some ⟨wr.heap.size, 0, none⟩) 256 256]))
    (hg : ((wr.alloc Z5).alloc (Z31 wr.heap.size)).drew.grownBy w1 vn.ownBlock) (hat : some gv = vn.ownBlock ∨ gv = wr.heap.size + 2) :
    Making w (w1.setCell ⟨h, 1, none⟩ (.slice (some ⟨gv, 0, none⟩) (k + 1) cv)) h gw n k' (k + 1) vs (.slice (some ⟨gv, 0, none⟩) (k + 1) cv) := by
  obtain ⟨a1, a2, a3, hF⟩ := heads_more hfd hown0 hM.safe (fun g e e2 => hM.ne g e2 e) hown hg hat
  have hh : Blk w1 h 41 _ := hM.head.fr hF (fun x => ty_not (by simp) x.2)
  have hF2 : Fr (On h 41) w1 (w1.setCell ⟨h, 1, none⟩ (.slice (some ⟨gv, 0, none⟩) (k + 1) cv)) := (Fr.refl _ _).setIn (fun o ho => by
    rw [show w1.heap[h]? = _ from hh] at ho; cases ho; exact on_mk _ _) _
  have hbl : Below w.heap.size w w1 := hM.below.trans (below_of_fr hF (fun g o x => by
    rcases hown0.2 with ⟨rfl, _⟩ | ⟨g', cap, cur, rfl, hb, _, _⟩
    · cases x.1
    · have e' : g = g' := by simpa [Value.ownBlock] using x.1
      omega) hM.below.size)
  exact ⟨hh.set_ 1 _, a2.fr hF2 (fun _ _ _ _ => on_not (by decide)) (fun _ _ _ => on_not (by decide)), a1.fr hF2 (fun _ _ _ _ => on_not (by decide)) (fun _ _ _ => on_not (by decide)),
    (fun g e e2 => a3 (by simp [Value.ownBlock] at e2; rw [e, e2])), (hM.wets.fr hF (fun _ _ x => ty_not (by simp) x.2)).fr hF2 (fun _ _ => on_not (by decide)), hbl.setCell (p := ⟨h, _, none⟩) hM.hh _, hM.hh, hM.sv, ⟨_, _, _, rfl⟩⟩

set_option maxRecDepth 100000 in
set_option maxHeartbeats 2000000 in
theorem rnew_ok (n : Nat) (w : World) (h1 : 1 ≤ n) (h2 : n ≤ 65536) : Calls Try.prog 9 #[.int .i64 n] w (RNewOk w n) := by
  have hmk := fun w => madeWets w n h2
  have hp : ¬ (n : Int) < 1 := by omega
  have hq : ¬ (65536 : Int) < n := by omega
  obtain ⟨i0, hi0, hz0, hz1, hz2⟩ := info_parts info31
  have hbk : Blk ((w.alloc (.cells (wrow n) 4)).alloc (.cells #[.slice none 0 0, .slice none 0 0, .slice (some ⟨w.heap.size, 0, none⟩) n n, .int .i64 (-1), .int .i64 0] 41)) (w.heap.size + 1) 41 _ := heap_alloc2_new w _ _
  have hbw : Blk ((w.alloc (.cells (wrow n) 4)).alloc (.cells #[.slice none 0 0, .slice none 0 0, .slice (some ⟨w.heap.size, 0, none⟩) n n, .int .i64 (-1), .int .i64 0] 41)) w.heap.size 4 (wrow n) := heap_alloc2_old w _ _
  have hst : Making w ((w.alloc (.cells (wrow n) 4)).alloc (.cells #[.slice none 0 0, .slice none 0 0, .slice (some ⟨w.heap.size, 0, none⟩) n n, .int .i64 (-1), .int .i64 0] 41)) (w.heap.size + 1) w.heap.size n 0 0 (.slice none 0 0) (.slice none 0 0) :=
    ⟨hbk, heads_nil _ _, heads_nil _ _, (fun g e => by cases e), wrow_wets hbw, ((Below.refl _ w).alloc (Nat.le_refl _) _).alloc (by simp) _, by omega, ⟨_, _, _, rfl⟩, ⟨_, _, _, rfl⟩⟩
  have Hst := Lib.hid hst
  clear hst hbk hbw
  go_enter Try.func9, Try.ntmps9
  go_wp2
  clear hmk
  go_loopw [4] (fun i wr => ∃ k : Nat, ∃ vs vn, k ≤ n ∧ i = .int .i64 k ∧ Making w wr (w.heap.size + 1) w.heap.size n k k vs vn) (fun i _ => n - (intOf i).toNat)
  case atStart => exact ⟨0, _, _, by omega, rfl, Hst.out⟩
  case round =>
    obtain ⟨k, vs, vn, hk, rfl, hM⟩ := hrel
    by_cases hlt : k < n
    · have hmk : ∀ w : World, (Instr.makeSlice 31 (.int .i64 256) (.int .i64 256)).run Try.prog w = .ok (.slice (some ⟨w.heap.size, 0, none⟩) 256 256) (w.alloc (.cells (zrow 256) 5)) := fun w => madeRow w 256 (by omega)
      obtain ⟨As, ms, cs, rfl⟩ := hM.sv
      obtain ⟨An, mn, cn, rfl⟩ := hM.nv
      have hbs : w.heap.size ≤ wr.heap.size := hM.below.size
      have hkk : k < 65536 := by omega
      have HM := Lib.hid hM
      clear hM
      go_upto_region 7 with fail
      go_cut [] (fun wx => ∃ vs', Making w wx (w.heap.size + 1) w.heap.size n (k + 1) k vs' (.slice An mn cn))
      case first =>
        obtain ⟨f, hf, hfd⟩ := HM.out.safe
        have hA0 := HM.out.head.cell 0
        have hon := own_ne hf HM.out.head (by decide)
        have hA1 := ((HM.out.head.alloc (.cells (zrow 256) 5))).cell 0
        have hA2 := ((HM.out.head.alloc (.cells (zrow 256) 5)).alloc (.cells #[.slice (some ⟨wr.heap.size, 0, none⟩) 256 256] 31)).cell 0
        simp only [List.getElem?_toArray, List.getElem?_cons_zero] at hA0 hA1 hA2
        have Hfd := Lib.hid hfd
        clear hfd
        go_region_law ((refine step_append_any _ (by rfl) _ _ 39 (by rfl) w.heap.size 31 i0 _ 1 24 Try.underlying39 hi0 hz0 hz1 hz2 rfl (by omega) (.slice As ms cs) k _ (by rfl) ((hf.alloc (.cells (zrow 256) 5)).alloc (.cells #[.slice (some ⟨wr.heap.size, 0, none⟩) 256 256] 31)).drew (wr.heap.size + 2) _ 1 1 [.slice (some ⟨wr.heap.size, 0, none⟩) 256 256] (by rfl) (new_two _ _ _ _) (by simp [Value.oneCell']) (by unfold maxLen; omega) (by omega) (by simp; omega) ?_; intro v' w1 hown hg hat; have hb1 := (((HM.out.head.alloc (.cells (zrow 256) 5)).alloc (.cells #[.slice (some ⟨wr.heap.size, 0, none⟩) 256 256] 31)).drew).grown_ hg hon; have x0 := hb1.cell 0; have x1 := hb1.frozen 0; obtain ⟨gv, cv, hv⟩ := own_some hown; subst hv; simp only [List.getElem?_toArray, List.getElem?_cons_zero] at x0))
        all_goals
          go_wp2_with fail
          go_meet
          exact ⟨_, making_safe HM.out Hfd.out hf hown hg (by simpa [Value.ownBlock] using hat)⟩
      case rest =>
        obtain ⟨vs', hM2⟩ := hcut
        obtain ⟨A2, m2, c2, rfl⟩ := hM2.sv
        have hbs2 : w.heap.size ≤ wc.heap.size := hM2.below.size
        have HM2 := Lib.hid hM2
        clear hM2 HM hbs
        go_upto_region 8 with fail
        obtain ⟨f, hf, hfd⟩ := HM2.out.now
        have hA0 := HM2.out.head.cell 1
        have hon := own_ne hf HM2.out.head (by decide)
        have hA1 := ((HM2.out.head.alloc (.cells (zrow 256) 5))).cell 1
        have hA2 := ((HM2.out.head.alloc (.cells (zrow 256) 5)).alloc (.cells #[.slice (some ⟨wc.heap.size, 0, none⟩) 256 256] 31)).cell 1
        simp only [List.getElem?_toArray, List.getElem?_cons_zero, List.getElem?_cons_succ] at hA0 hA1 hA2
        have Hfd := Lib.hid hfd
        clear hfd
        go_region_law ((refine step_append_any _ (by rfl) _ _ 39 (by rfl) w.heap.size 31 i0 _ 1 24 Try.underlying39 hi0 hz0 hz1 hz2 rfl (by omega) (.slice An mn cn) k _ (by rfl) ((hf.alloc (.cells (zrow 256) 5)).alloc (.cells #[.slice (some ⟨wc.heap.size, 0, none⟩) 256 256] 31)).drew (wc.heap.size + 2) _ 1 1 [.slice (some ⟨wc.heap.size, 0, none⟩) 256 256] (by rfl) (new_two _ _ _ _) (by simp [Value.oneCell']) (by unfold maxLen; omega) (by omega) (by simp; omega) ?_; intro v' w1 hown hg hat; have hb1 := (((HM2.out.head.alloc (.cells (zrow 256) 5)).alloc (.cells #[.slice (some ⟨wc.heap.size, 0, none⟩) 256 256] 31)).drew).grown_ hg hon; have x0 := hb1.cell 1; have x1 := hb1.frozen 1; obtain ⟨gv, cv, hv⟩ := own_some hown; subst hv; simp only [List.getElem?_toArray, List.getElem?_cons_zero, List.getElem?_cons_succ] at x0))
        all_goals
          have hM3 := making_now HM2.out Hfd.out hf hown hg (by simpa [Value.ownBlock] using hat)
          have HM3 := Lib.hid hM3
          clear HM2 hbs2 hmk hM3 hown hg hat hb1 x0 x1 hA0 hA1 hA2 hf hon
          go_wp2
          exact ⟨⟨k + 1, _, _, by omega, by go_num, HM3.out⟩, by simp [intOf]; omega⟩
    · have hkn : k = n := by omega
      subst hkn
      go_wp2
      go_ret
      obtain ⟨fs, q1, q2⟩ := hM.safe
      obtain ⟨fn, q3, q4⟩ := hM.now
      obtain ⟨gs, cs, e1, b1, r1, l1⟩ := own_spine q1 (by omega)
      obtain ⟨gn, cn, e2, b2, r2, l2⟩ := own_spine q3 (by omega)
      refine ⟨w.heap.size + 1, gs, gn, w.heap.size, rfl, by omega, b1, b2, Nat.le_refl _, ⟨⟨cs, cn, l1, l2, ?_⟩, fun e => ?_, rfl, ⟨fn, fs, r2, r1, fun i hi => ⟨q4 i hi, q2 i hi⟩⟩, hM.wets⟩, hM.below⟩
      · have := hM.head
        rw [e1, e2] at this
        exact this
      · exact hM.ne gs (by rw [e1]; rfl) (by rw [e2, e]; rfl)
end Go.Proofs.Ytadmccbminiadaa
