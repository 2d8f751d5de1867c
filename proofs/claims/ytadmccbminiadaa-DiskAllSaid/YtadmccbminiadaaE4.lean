/- The law DiskAll: the words for one round. No condition beyond each theorem's own. -/
import Derived.Test.YtadmccbminiadaaE3
import Derived.Deep.MidRow
namespace Go.Proofs.Ytadmccbminiadaa
open Go.RowKit

/-- One thing that is asked of a device, as it lies in memory. -/
structure OpR where
  kd : Int
  ix : Int
  nn : Int
  ba : Option Addr
  bn : Nat
  bc : Nat
  bl : List UInt8
  ka : Option Addr
  kn : Nat
  kc : Nat
  kl : List Bool
def OpR.cells (r : OpR) : List Value := [.int .i64 r.kd, .int .i64 r.ix, .int .i64 r.nn, .slice r.ba r.bn r.bc, .slice r.ka r.kn r.kc]
structure OpOk (w : World) (b o : Nat) (r : OpR) : Prop where
  row : w.rangeAt b o r.cells
  bytes : Bytes w r.ba r.bn r.bl
  blen : r.bn ≤ 9223372036854775807
  keep : Bools w r.ka r.kn r.kl
  far : ∀ a, r.ka = some a → 0 < r.kn → a.block < w.heap.size
  top : r.nn ≤ 9223372036854775807
theorem OpOk.below {w w' : World} {b o : Nat} {r : OpR} (h : OpOk w b o r) (hb : Below w.heap.size w w') : OpOk w' b o r :=
  ⟨fun j v hv => below_cell hb (h.row j v hv), h.bytes.below hb, h.blen, h.keep.below hb, fun a e hn => Nat.lt_of_lt_of_le (h.far a e hn) hb.size, h.top⟩
def OpsIn (w : World) (A : Option Addr) (n : Nat) (f : Nat → OpR) : Prop := 0 < n → ∃ b o, A = some ⟨b, o, none⟩ ∧ ∀ k, k < n → OpOk w b (o + k * 5) (f k)

/-- Both devices as they stand between two things asked. -/
structure Both (w : World) (B N k g gl h gs gn gw br : Nat) (s : DS) : Prop where
  kept : Kept N k s
  pd : PD w g gl s
  rd : RD w h gs gn gw s
  box : Blk w br 29 #[.pointer (some ⟨h, 0, none⟩)]
  g_ : B ≤ g
  gl_ : B ≤ gl
  h_ : B ≤ h
  gs_ : B ≤ gs
  gn_ : B ≤ gn
  gw_ : B ≤ gw
  br_ : B ≤ br
theorem Both.below {w w' : World} {B N k g gl h gs gn gw br : Nat} {s : DS} (hB : Both w B N k g gl h gs gn gw br s) (hb : Below w.heap.size w w') : Both w' B N k g gl h gs gn gw br s :=
  ⟨hB.kept, hB.pd.below hb, hB.rd.below hb, hB.box.below hb hB.box.lt, hB.g_, hB.gl_, hB.h_, hB.gs_, hB.gn_, hB.gw_, hB.br_⟩
theorem rk_ge {h gs gn gw B : Nat} (h1 : B ≤ h) (h2 : B ≤ gs) (h3 : B ≤ gn) (h4 : B ≤ gw) : ∀ k o, Rk h gs gn gw k o → B ≤ k := by
  rintro k o (⟨rfl, _⟩ | ⟨rfl, _⟩ | ⟨rfl, _⟩ | ⟨rfl, _⟩) <;> assumption
theorem row34 {w : World} {b o : Nat} {r : OpR} (h : w.rangeAt b o r.cells) :
    w.cell? ⟨b, o, none⟩ = some (.int .i64 r.kd) ∧ w.cell? ⟨b, o + 1, none⟩ = some (.int .i64 r.ix) ∧ w.cell? ⟨b, o + 2, none⟩ = some (.int .i64 r.nn) ∧ w.cell? ⟨b, o + 3, none⟩ = some (.slice r.ba r.bn r.bc) ∧ w.cell? ⟨b, o + 4, none⟩ = some (.slice r.ka r.kn r.kc) :=
  ⟨h 0 _ rfl, h 1 _ rfl, h 2 _ rfl, h 3 _ rfl, h 4 _ rfl⟩

def AllOk (w : World) (e : Ending) (w' : World) : Prop := e = .returned (.bool true) ∧ Below w.heap.size w w'

/-- Both devices within a round, and the thing asked in its box. -/
structure Mid (w0 w : World) (g gl h gs gn gw br bo : Nat) (s1 s2 : DS) (r : OpR) : Prop where
  pd : PD w g gl s1
  rd : RD w h gs gn gw s2
  box : Blk w br 29 #[.pointer (some ⟨h, 0, none⟩)]
  op : Blk w bo 34 r.cells.toArray
  low : Below w0.heap.size w0 w
  g_ : w0.heap.size ≤ g
  gl_ : w0.heap.size ≤ gl
  h_ : w0.heap.size ≤ h
  gs_ : w0.heap.size ≤ gs
  gn_ : w0.heap.size ≤ gn
  gw_ : w0.heap.size ≤ gw
  br_ : w0.heap.size ≤ br
  bo_ : w0.heap.size ≤ bo
section
variable {w0 w w' : World} {N k g gl h gs gn gw br bo : Nat} {s s1 s2 s' : DS} {r : OpR}
theorem Mid.start (hB : Both w w0.heap.size N k g gl h gs gn gw br s) (hl : Below w0.heap.size w0 w) (r : OpR) : Mid w0 (w.alloc (.cells r.cells.toArray 34)) g gl h gs gn gw br w.heap.size s s r := by
  have hb := (Below.refl w.heap.size w).alloc (Nat.le_refl _) (.cells r.cells.toArray 34)
  have hB2 := hB.below hb
  exact ⟨hB2.pd, hB2.rd, hB2.box, Blk.new w 34 _, hl.trans (hb.mono hl.size), hB2.g_, hB2.gl_, hB2.h_, hB2.gs_, hB2.gn_, hB2.gw_, hB2.br_, hl.size⟩
theorem Mid.below (hM : Mid w0 w g gl h gs gn gw br bo s1 s2 r) (hb : Below w.heap.size w w') : Mid w0 w' g gl h gs gn gw br bo s1 s2 r :=
  ⟨hM.pd.below hb, hM.rd.below hb, hM.box.below hb hM.box.lt, hM.op.below hb hM.op.lt, hM.low.trans (hb.mono hM.low.size), hM.g_, hM.gl_, hM.h_, hM.gs_, hM.gn_, hM.gw_, hM.br_, hM.bo_⟩
theorem Mid.dk (hM : Mid w0 w g gl h gs gn gw br bo s1 s2 r) (hF : Fr (Dk g gl) w w') (hP : PD w' g gl s') : Mid w0 w' g gl h gs gn gw br bo s' s2 r :=
  ⟨hP, hM.rd.fr hF (fun _ _ => dk_not (by decide) (by decide)) (fun _ _ => dk_not (by decide) (by decide)) (fun _ _ => dk_not (by decide) (by decide)) (fun _ _ => dk_not (by decide) (by decide)) (fun _ _ _ => dk_not (by decide) (by decide)),
    hM.box.fr hF (dk_not (by decide) (by decide)), hM.op.fr hF (dk_not (by decide) (by decide)), hM.low.trans (below_of_fr hF (dk_ge hM.g_ hM.gl_) hM.low.size), hM.g_, hM.gl_, hM.h_, hM.gs_, hM.gn_, hM.gw_, hM.br_, hM.bo_⟩
theorem Mid.hd (hM : Mid w0 w g gl h gs gn gw br bo s1 s2 r) (hF : Fr (Hd g) w w') (hP : PD w' g gl s') : Mid w0 w' g gl h gs gn gw br bo s' s2 r := hM.dk (hF.mono fun _ _ x => .inl x) hP
theorem Mid.rk (hM : Mid w0 w g gl h gs gn gw br bo s1 s2 r) (hF : Fr (Rk h gs gn gw) w w') (hR : RD w' h gs gn gw s') : Mid w0 w' g gl h gs gn gw br bo s1 s' r :=
  ⟨hM.pd.fr hF (fun _ _ => rk_not (by decide) (by decide) (by decide)) (fun _ _ => rk_not (by decide) (by decide) (by decide)) (fun _ _ _ => rk_not (by decide) (by decide) (by decide)), hR,
    hM.box.fr hF (rk_not (by decide) (by decide) (by decide)), hM.op.fr hF (rk_not (by decide) (by decide) (by decide)), hM.low.trans (below_of_fr hF (rk_ge hM.h_ hM.gs_ hM.gn_ hM.gw_) hM.low.size), hM.g_, hM.gl_, hM.h_, hM.gs_, hM.gn_, hM.gw_, hM.br_, hM.bo_⟩
theorem Mid.rh (hM : Mid w0 w g gl h gs gn gw br bo s1 s2 r) (hF : Fr (Rh h) w w') (hR : RD w' h gs gn gw s') : Mid w0 w' g gl h gs gn gw br bo s1 s' r := hM.rk (hF.mono fun _ _ x => .inl x) hR
theorem Mid.both (hM : Mid w0 w g gl h gs gn gw br bo s s r) (hk : Kept N k s) : Both w w0.heap.size N k g gl h gs gn gw br s :=
  ⟨hk, hM.pd, hM.rd, hM.box, hM.g_, hM.gl_, hM.h_, hM.gs_, hM.gn_, hM.gw_, hM.br_⟩
theorem Mid.facts (hM : Mid w0 w g gl h gs gn gw br bo s1 s2 r) :
    w.cell? ⟨bo, 0, none⟩ = some (.int .i64 r.kd) ∧ w.cell? ⟨bo, 1, none⟩ = some (.int .i64 r.ix) ∧ w.cell? ⟨bo, 2, none⟩ = some (.int .i64 r.nn) ∧ w.cell? ⟨bo, 3, none⟩ = some (.slice r.ba r.bn r.bc) ∧ w.cell? ⟨bo, 4, none⟩ = some (.slice r.ka r.kn r.kc) ∧
    w.cell? ⟨br, 0, none⟩ = some (.pointer (some ⟨h, 0, none⟩)) ∧ bo < w.heap.size ∧ br < w.heap.size :=
  ⟨by rw [hM.op.cell]; rfl, by rw [hM.op.cell]; rfl, by rw [hM.op.cell]; rfl, by rw [hM.op.cell]; rfl, by rw [hM.op.cell]; rfl, by rw [hM.box.cell]; rfl, hM.op.lt, hM.box.lt⟩
end

/-- What a crash's questions keep, from the world in which it begins. -/
def KQ (wx : World) (bf ba k : Nat) (w : World) : Prop := Fr (Kp bf ba) wx w ∧ Blk w bf 4 #[.bool true] ∧ ∃ a : Int, a < k ∧ -1 ≤ a ∧ Blk w ba 3 #[.int .i64 a]
theorem Fr.then_below {S : Nat → Obj → Prop} {w w1 w2 : World} (h : Fr S w w1) (hb : Below w.heap.size w1 w2) : Fr S w w2 :=
  ⟨hb.os.trans h.os, hb.tape.trans h.tape, hb.output.trans h.output, Nat.le_trans h.size hb.size, fun k o ho hn => (hb.block k (lt_of_heap ho)).trans (h.block k o ho hn)⟩
theorem KQ.kj {h gs gn gw : Nat} {s : DS} {bf ba br bo : Nat} {q0 q1 q2 q3 : Value} {A : Option Addr} {n c : Nat} {l : List Bool} {k : Nat} {wx w : World}
    (hx : KJ h gs gn gw s bf ba br bo q0 q1 q2 q3 A n c l 0 wx) (hq : KQ wx bf ba k w) : KJ h gs gn gw s bf ba br bo q0 q1 q2 q3 A n c l k w := by
  obtain ⟨hF, f, asked⟩ := hq
  refine ⟨f, asked, hx.r.fr hF (kp_not (by decide) (by decide)), hx.o.fr hF (kp_not (by decide) (by decide)), ?_, hx.keep.fr hF (fun a o e hn => ?_), hx.ne, hx.far⟩
  · refine hx.rd.fr hF (fun _ _ => kp_not (by decide) (by decide)) (fun _ _ => kp_not (by decide) (by decide)) (fun _ _ => kp_not (by decide) (by decide)) (fun c f => ?_) (fun _ _ _ => kp_not (by decide) (by decide))
    rintro (x | x)
    · exact hx.ne x.1
    · exact on_not (by decide) x
  · obtain ⟨f1, f2⟩ := hx.far a e hn
    rintro (x | x)
    · exact f1 x.1
    · exact f2 x.1
theorem keeper_any {h gs gn gw : Nat} {s : DS} {bf ba br bo : Nat} {q0 q1 q2 q3 : Value} {A : Option Addr} {n c : Nat} {l : List Bool} {wx : World}
    (hx : KJ h gs gn gw s bf ba br bo q0 q1 q2 q3 A n c l 0 wx) :
    Keeper wx 18 #[.pointer (some ⟨bf, 0, none⟩), .pointer (some ⟨ba, 0, none⟩), .pointer (some ⟨br, 0, none⟩), .pointer (some ⟨bo, 0, none⟩)] s.n s.wet (keepOf l) (Kp bf ba) (KQ wx bf ba) :=
  { start := ⟨Fr.refl _ _, hx.fine, hx.asked⟩
    skip := fun i w1 _ _ ⟨hF, f, a, a1, a2, a3⟩ => ⟨hF, f, a, by omega, a2, a3⟩
    keeps := fun i w1 w2 ⟨hF, f, a, a1, a2, a3⟩ hb => by
      obtain ⟨a', _, _, a3'⟩ := hx.asked
      exact ⟨hF.then_below hb, f.below hb hx.fine.lt, a, a1, a2, a3.below hb a3'.lt⟩
    calls := fun i w1 hi hw hq => (keep_any (KQ.kj hx hq) hi hw).mono fun e w2 ⟨he, hj, hF⟩ => ⟨he, ⟨hq.1.trans hF, hj.fine, hj.asked⟩, hF⟩
    enters := enters_of Try.func18 (by kernel_rfl) rfl
    types := fun k c t fr hS => by
      rcases hS with ⟨_, _, _, _, e, ht⟩ | ⟨_, _, _, _, e, ht⟩ <;> cases e <;> simp at ht <;> subst ht <;> decide }

/-- The boxes of a crash, new. -/
abbrev CX (w : World) : World := (w.alloc (.cells #[.int .i64 (-1)] 3)).alloc (.cells #[.bool true] 4)
theorem cx_below (w : World) : Below w.heap.size w (CX w) := ((Below.refl w.heap.size w).alloc (Nat.le_refl _) _).alloc (by simp) _
section
variable {w0 w1 w4 w5 : World} {g gl h gs gn gw br bo g2 gl2 h2 gs2 gn2 gw2 : Nat} {s s2 : DS} {kd ix nn : Int} {ba : Option Addr} {bn bc : Nat} {bl : List UInt8} {ka : Option Addr} {kn kc : Nat} {kl : List Bool}
theorem kj_start (hM : Mid w0 w1 g gl h gs gn gw br bo s s ⟨kd, ix, nn, ba, bn, bc, bl, ka, kn, kc, kl⟩) (hk : Bools w1 ka kn kl) (hfar : ∀ a, ka = some a → 0 < kn → a.block < w1.heap.size) :
    KJ h gs gn gw s (w1.heap.size + 1) w1.heap.size br bo (.int .i64 kd) (.int .i64 ix) (.int .i64 nn) (.slice ba bn bc) ka kn kc kl 0 (CX w1) := by
  have hb := cx_below w1
  have hM2 := hM.below hb
  have hgw : gw < w1.heap.size := by obtain ⟨cs, h1, _⟩ := hM.rd.wets; exact h1.lt
  exact ⟨heap_alloc2_new w1 _ _, ⟨-1, by omega, by omega, heap_alloc2_old w1 _ _⟩, hM2.box, hM2.op, hM2.rd, hk.below hb, by omega, fun a e hn => by have := hfar a e hn; omega⟩
theorem mid_crash (hM : Mid w0 w1 g gl h gs gn gw br bo s s ⟨kd, ix, nn, ba, bn, bc, bl, ka, kn, kc, kl⟩) (hF4 : Fr (Kp (w1.heap.size + 1) w1.heap.size) (CX w1) w4) (hP : PD w4 g2 gl2 s2) (hg : (CX w1).heap.size ≤ g2) (hgl : (CX w1).heap.size ≤ gl2)
    (hfine : Blk w4 (w1.heap.size + 1) 4 #[.bool true]) (hR : RD w5 h2 gs2 gn2 gw2 s2) (hb5 : Below w4.heap.size w4 w5) (q1 : w4.heap.size ≤ h2) (q2 : w4.heap.size ≤ gs2) (q3 : w4.heap.size ≤ gn2) (q4 : w4.heap.size ≤ gw2) :
    Mid w0 (w5.setCell ⟨br, 0, none⟩ (.pointer (some ⟨h2, 0, none⟩))) g2 gl2 h2 gs2 gn2 gw2 br bo s2 s2 ⟨kd, ix, nn, ba, bn, bc, bl, ka, kn, kc, kl⟩ ∧
    (w5.setCell ⟨br, 0, none⟩ (.pointer (some ⟨h2, 0, none⟩))).cell? ⟨w1.heap.size + 1, 0, none⟩ = some (.bool true) ∧ w5.frozen? ⟨br, 0, none⟩ = false ∧ w5.cell? ⟨br, 0, none⟩ = some (.pointer (some ⟨h, 0, none⟩)) := by
  have hbx := cx_below w1
  have hM2 := hM.below hbx
  have hl1 := hM.low.size
  have hlx := hM2.low.size
  have hl4 := hF4.size
  have hl5 := hb5.size
  have box4 := hM2.box.fr hF4 (kp_not (by decide) (by decide))
  have op4 := hM2.op.fr hF4 (kp_not (by decide) (by decide))
  have low4 : Below w0.heap.size w0 w4 := hM2.low.trans (below_of_fr hF4 (by
    rintro k o (x | x)
    · have := x.1; omega
    · have := x.1; omega) hlx)
  have low5 := low4.trans (hb5.mono low4.size)
  have box5 := box4.below hb5 box4.lt
  have op5 := op4.below hb5 op4.lt
  have fine5 := hfine.below hb5 hfine.lt
  have hF6 : Fr (On br 29) w5 (w5.setCell ⟨br, 0, none⟩ (.pointer (some ⟨h2, 0, none⟩))) := (Fr.refl _ w5).setIn (fun o ho => by
    rw [show w5.heap[br]? = _ from box5] at ho; cases ho; exact on_mk _ _) _
  have fine6 := fine5.fr hF6 (on_not (by decide))
  refine ⟨⟨(hP.below hb5).fr hF6 (fun _ _ => on_not (by decide)) (fun _ _ => on_not (by decide)) (fun _ _ _ => on_not (by decide)),
    hR.fr hF6 (fun _ _ => on_not (by decide)) (fun _ _ => on_not (by decide)) (fun _ _ => on_not (by decide)) (fun _ _ => on_not (by decide)) (fun _ _ _ => on_not (by decide)),
    by simpa using box5.set_ 0 (.pointer (some ⟨h2, 0, none⟩)), op5.fr hF6 (on_not (by decide)), low5.setCell (p := ⟨br, 0, none⟩) hM.br_ _, by omega, by omega, by omega, by omega, by omega, by omega, hM.br_, hM.bo_⟩, by rw [fine6.cell]; rfl, box5.frozen 0, by rw [box5.cell]; rfl⟩
end
end Go.Proofs.Ytadmccbminiadaa
