/- Contracts of the functions of disk and of the law's own, part 6. No condition beyond each theorem's own. -/
import Derived.Test.YtadmccbminiadaaD5
namespace Go.Proofs.Ytadmccbminiadaa
open Go.RowKit

/-- What a crash is told to keep: a function that answers κ where it is asked (in rising order, of the wet sectors), writes what S lets, and keeps J. -/
structure Keeper (w : World) (f : Nat) (cap : Array Value) (n : Nat) (wet κ : Nat → Bool) (S : Nat → Obj → Prop) (J : Nat → World → Prop) : Prop where
  start : J 0 w
  skip : ∀ i w1, i < n → wet i = false → J i w1 → J (i + 1) w1
  keeps : ∀ i w1 w2, J i w1 → Below w.heap.size w1 w2 → J i w2
  calls : ∀ i w1, i < n → wet i = true → J i w1 → Calls Try.prog f (#[.int .i64 (i : Int)] ++ cap) w1 (fun e w2 => e = .returned (.bool (κ i)) ∧ J (i + 1) w2 ∧ Fr S w1 w2)
  enters : ∀ args w1, (callFunc f args).run Try.prog w1 = .ok (.enter f args) w1
  types : ∀ k c t fr, S k (.cells c t fr) → t ≠ 5 ∧ t ≠ 55 ∧ t ≠ 58

def CrashOk (w : World) (S : Nat → Obj → Prop) (J : World → Prop) (g gl : Nat) (s : DS) (κ : Nat → Bool) (e : Ending) (w' : World) : Prop :=
  ∃ g2 gl2, e = .returned (.pointer (some ⟨g2, 0, none⟩)) ∧ w.heap.size ≤ g2 ∧ w.heap.size ≤ gl2 ∧ PD w' g2 gl2 (s.crash κ) ∧ PD w' g gl s ∧ Fr S w w' ∧ J w'

theorem crash_nil (v : Value) (w : World) : Calls Try.prog 17 #[.pointer none, v] w fun e w' => e = .returned (.pointer none) ∧ w = w' := by
  go_enter Try.func17, Try.ntmps17
  go_wp2
  go_ret
  exact ⟨rfl, rfl⟩

theorem new_crashTo (s : DS) (κ : Nat → Bool) : DS.new s.n = s.crashTo κ 0 := by simp [DS.crashTo, DS.new]

theorem crashTo_all {w : World} {g gl : Nat} {s : DS} {κ : Nat → Bool} (h : PD w g gl (s.crashTo κ s.n)) : PD w g gl (s.crash κ) := by
  obtain ⟨hh, nv, sv, hS, hd⟩ := h
  refine ⟨hh, nv, sv, hS, fun i hi => ?_⟩
  have := hd i hi
  simp only [DS.crashTo] at this
  rwa [if_pos (show i < s.n from hi)] at this

/-- One sector more is laid. -/
theorem crash_step {w : World} {g gl k : Nat} {s : DS} {κ : Nat → Bool} (h : PD w g gl (s.crashTo κ k)) (hk : k < s.n) (hv : SH) (hd : DataH w hv (s.val κ k)) :
    PD (((w.setCell ⟨gl, k * 3, none⟩ (.slice hv.a hv.n hv.c)).setCell ⟨gl, k * 3 + 1, none⟩ (.slice hv.a hv.n hv.c)).setCell ⟨gl, k * 3 + 2, none⟩ (.bool false)) g gl (s.crashTo κ (k + 1)) := by
  obtain ⟨hh, nv, sv, hS, hdd⟩ := h
  have hne : g ≠ gl := by
    obtain ⟨cs, h1, _⟩ := hS
    exact Blk.ne_ hh h1 (by decide)
  have hS1 := hS.set0 hk hv.a hv.n hv.c
  have hS2 := hS1.set1 hk hv.a hv.n hv.c
  have hS3 := hS2.set2 hk false
  have hF : Fr (Dk g gl) w (((w.setCell ⟨gl, k * 3, none⟩ (.slice hv.a hv.n hv.c)).setCell ⟨gl, k * 3 + 1, none⟩ (.slice hv.a hv.n hv.c)).setCell ⟨gl, k * 3 + 2, none⟩ (.bool false)) :=
    (((Fr.refl _ w).setIn (secs_in hS) _).setIn (secs_in hS) _).setIn (secs_in hS) _
  have hw : upd (s.crashTo κ k).wet k false = (s.crashTo κ (k + 1)).wet := by funext j; simp [upd, DS.crashTo, DS.new]
  refine ⟨Blk.far (Blk.far (Blk.far hh hne _) hne _) hne _, _, _, hw ▸ hS3, fun j hj => ?_⟩
  have key : ∀ (f : Nat → SH) (hf : DataH w (f j) (if j < k then s.val κ j else zero256)), DataH (((w.setCell ⟨gl, k * 3, none⟩ (.slice hv.a hv.n hv.c)).setCell ⟨gl, k * 3 + 1, none⟩ (.slice hv.a hv.n hv.c)).setCell ⟨gl, k * 3 + 2, none⟩ (.bool false)) (upd f k ⟨hv.a, hv.n, hv.c⟩ j) (if j < k + 1 then s.val κ j else zero256) := by
    intro f hf
    by_cases e : j = k
    · subst e
      simp only [upd, if_pos]
      rw [if_pos (by omega)]
      exact hd.fr hF (fun _ _ _ => dk_not (by decide) (by decide))
    · simp only [upd, if_neg e]
      have e2 : (if j < k + 1 then s.val κ j else zero256) = (if j < k then s.val κ j else zero256) := by
        by_cases e3 : j < k
        · rw [if_pos e3, if_pos (by omega)]
        · rw [if_neg e3, if_neg (by omega)]
      rw [e2]
      exact hf.fr hF (fun _ _ _ => dk_not (by decide) (by decide))
  exact ⟨key nv (hdd j hj).1, key sv (hdd j hj).2⟩

theorem neqNil (w : World) (f : Nat) (cap : Array Value) : (binOp .neq 42 (.func (.func f) #[] cap) .nilFunc).run Try.prog w = .ok (.bool true) w := by
  kernel_rfl

/-- What a walk reads of a sector. -/
theorem PD.sector {w : World} {g gl k : Nat} {s : DS} (h : PD w g gl s) (hk : k < s.n) : ∃ hv hw : SH,
    w.cell? ⟨gl, k * 3, none⟩ = some (.slice hv.a hv.n hv.c) ∧ w.cell? ⟨gl, k * 3 + 1, none⟩ = some (.slice hw.a hw.n hw.c) ∧ w.cell? ⟨gl, k * 3 + 2, none⟩ = some (.bool (s.wet k)) ∧
    DataH w hv (s.now k) ∧ DataH w hw (s.safe k) ∧ gl < w.heap.size ∧ (∀ j, w.frozen? ⟨gl, j, none⟩ = false) := by
  obtain ⟨hh, nv, sv, ⟨cs, h1, h2, h3⟩, hd⟩ := h
  obtain ⟨c0, c1, c2⟩ := h3 k hk
  rw [← h1.cell] at c0 c1 c2
  exact ⟨nv k, sv k, c0, c1, c2, (hd k hk).1, (hd k hk).2, h1.lt, h1.frozen⟩

def W3 (w : World) (gl k : Nat) (hv : SH) : World := ((w.setCell ⟨gl, k * 3, none⟩ (.slice hv.a hv.n hv.c)).setCell ⟨gl, k * 3 + 1, none⟩ (.slice hv.a hv.n hv.c)).setCell ⟨gl, k * 3 + 2, none⟩ (.bool false)

theorem crash_next {w wr : World} {g gl g2 gl2 k : Nat} {s : DS} {κ : Nat → Bool} {S : Nat → Obj → Prop} {J : Nat → World → Prop}
    (hp : PD wr g gl s) (hp2 : PD wr g2 gl2 (s.crashTo κ k)) (hk : k < s.n) (hJ : J (k + 1) wr) (hfr : Fr S w wr) (hgl2 : w.heap.size ≤ gl2) (hg : g < w.heap.size) (hgl : gl < w.heap.size)
    (hJk : ∀ w1 w2, J (k + 1) w1 → Below w.heap.size w1 w2 → J (k + 1) w2) (hv : SH) (hd : DataH wr hv (s.val κ k)) :
    PD (W3 wr gl2 k hv) g gl s ∧ PD (W3 wr gl2 k hv) g2 gl2 (s.crashTo κ (k + 1)) ∧ J (k + 1) (W3 wr gl2 k hv) ∧ Fr S w (W3 wr gl2 k hv) := by
  have hS : ∀ o, wr.heap[gl2]? = some o → (fun (b : Nat) (o : Obj) => b = gl2 ∧ Ty [58] b o) gl2 o := by
    intro o ho
    obtain ⟨_, _, _, ⟨cs, h1, _⟩, _⟩ := hp2
    rw [show wr.heap[gl2]? = _ from h1] at ho
    cases ho
    exact ⟨rfl, _, _, _, rfl, by simp⟩
  have hF : Fr (fun b o => b = gl2 ∧ Ty [58] b o) wr (W3 wr gl2 k hv) := (((Fr.refl _ wr).setIn hS _).setIn hS _).setIn hS _
  refine ⟨hp.fr hF (fun _ _ h => by have := h.1; omega) (fun _ _ h => by have := h.1; omega) (fun _ _ _ h => ty_not (by simp) h.2), crash_step hp2 hk hv hd, ?_, ?_⟩
  · exact hJk _ _ hJ ((((Below.refl _ wr).setCell (p := ⟨gl2, _, none⟩) hgl2 _).setCell (p := ⟨gl2, _, none⟩) hgl2 _).setCell (p := ⟨gl2, _, none⟩) hgl2 _)
  · exact ((hfr.setNew (p := ⟨gl2, _, none⟩) hgl2 _).setNew (p := ⟨gl2, _, none⟩) hgl2 _).setNew (p := ⟨gl2, _, none⟩) hgl2 _

theorem after_alloc {w wr : World} {g gl g2 gl2 : Nat} {s s2 : DS} {S : Nat → Obj → Prop} {J : World → Prop} (o : Obj) (hJk : ∀ w1 w2, J w1 → Below w.heap.size w1 w2 → J w2) (hsz : w.heap.size ≤ wr.heap.size)
    (h : PD wr g gl s ∧ PD wr g2 gl2 s2 ∧ J wr ∧ Fr S w wr) : PD (wr.alloc o) g gl s ∧ PD (wr.alloc o) g2 gl2 s2 ∧ J (wr.alloc o) ∧ Fr S w (wr.alloc o) :=
  ⟨h.1.below ((Below.refl _ _).alloc (Nat.le_refl _) o), h.2.1.below ((Below.refl _ _).alloc (Nat.le_refl _) o), hJk _ _ h.2.2.1 ((Below.refl _ _).alloc hsz o), h.2.2.2.alloc o⟩

set_option maxHeartbeats 2000000 in
theorem crash_any {w : World} {g gl : Nat} {s : DS} (h : PD w g gl s) (h1 : 1 ≤ s.n) (hn : s.n ≤ 65536) {f : Nat} {cap : Array Value} {κ : Nat → Bool} {S : Nat → Obj → Prop} {J : Nat → World → Prop}
    (hK : Keeper w f cap s.n s.wet κ S J) :
    Calls Try.prog 17 #[.pointer (some ⟨g, 0, none⟩), .func (.func f) #[] cap] w (CrashOk w S (J s.n) g gl s κ) := by
  obtain ⟨h0, -⟩ := h.1.facts
  have H := Lib.hid h
  have HK := Lib.hid hK
  have hq := neqNil
  have hen := hK.enters
  clear h hK
  go_enter Try.func17, Try.ntmps17
  go_wp2_with (go_at_call 8; refine (new_ok s.n _ h1 hn).mono ?_; rintro e w1 ⟨g2, gl2, rfl, hg2, hgl2, hP2, hb⟩; have h01 := below_cell hb h0)
  rw [new_crashTo s κ] at hP2
  have hg0 : w.heap.size ≤ w1.heap.size := hb.size
  have hlg0 : g < w.heap.size := Blk.lt H.out.1
  have hll0 : gl < w.heap.size := by obtain ⟨_, _, _, ⟨_, h1, _⟩, _⟩ := H.out; exact h1.lt
  go_loopw [6, 7, 8, 22] (fun _ _ _ i wr => ∃ k : Nat, k ≤ s.n ∧ i = .int .i64 k ∧ PD wr g gl s ∧ PD wr g2 gl2 (s.crashTo κ k) ∧ J k wr ∧ Fr S w wr ∧ w1.heap.size ≤ wr.heap.size) (fun _ _ _ i _ => s.n - (intOf i).toNat)
  case atStart => exact ⟨0, by omega, rfl, H.out.below hb, hP2, HK.out.keeps _ _ _ HK.out.start hb, Fr.of_below hb, Nat.le_refl _⟩
  case round =>
    obtain ⟨k, hk, rfl, hp, hp2, hJ, hfr, hsz⟩ := hrel
    by_cases hlt : k < s.n
    · obtain ⟨hv, hw, c0, c1, c2, hd0, hd1, hl1, -⟩ := hp.sector hlt
      obtain ⟨_, _, e0, e1, e2, -, -, hl2, ef⟩ := hp2.sector (k := k) hlt
      obtain ⟨x0, -⟩ := hp2.1.facts
      have hgr : w1.heap.size ≤ wr.heap.size := hsz
      have hlg2 : g2 < wr.heap.size := Blk.lt hp2.1
      have Hp := Lib.hid hp
      have Hp2 := Lib.hid hp2
      have HJ := Lib.hid hJ
      have Hfr := Lib.hid hfr
      clear hp hp2 hJ hfr
      cases hwet : s.wet k
      · rw [hwet] at c2
        have Hwet := Lib.hid hwet
        clear hwet
        have hnx := crash_next (κ := κ) Hp.out Hp2.out hlt (HK.out.skip k wr hlt Hwet.out HJ.out) Hfr.out hgl2 hlg0 hll0 (HK.out.keeps (k + 1)) hw
          (by rw [show s.val κ k = s.safe k by simp [DS.val, Hwet.out]]; exact hd1)
        have Hnx := Lib.hid hnx
        have hszW : w.heap.size ≤ wr.heap.size := Nat.le_trans hg0 hgr
        clear hnx
        go_wp2
        obtain ⟨q1, q2, q3, q4⟩ := after_alloc (.cells #[.slice hv.a hv.n hv.c, .slice hw.a hw.n hw.c, .bool false] 58) (HK.out.keeps (k + 1)) (by simp [W3, World.setCell]; omega) Hnx.out
        exact ⟨⟨k + 1, by omega, by go_num, q1, q2, q3, q4, by simp; omega⟩, by simp [intOf]; omega⟩
      · rw [hwet] at c2
        have Hwet := Lib.hid hwet
        clear hwet
        have hszW : w.heap.size ≤ wr.heap.size := Nat.le_trans hg0 hgr
        go_wp2_with fail
        refine (HK.out.calls k _ hlt Hwet.out (HK.out.keeps _ _ _ HJ.out ((Below.refl _ _).alloc hszW _))).mono ?_
        rintro e w2 ⟨rfl, hJ2, hF2⟩
        have hba := (Below.refl wr.heap.size wr).alloc (Nat.le_refl _) (.cells #[.slice hv.a hv.n hv.c, .slice hw.a hw.n hw.c, .bool true] 58)
        have hp' := (Hp.out.below hba).fr hF2 (fun _ _ h => (HK.out.types _ _ _ _ h).2.1 rfl) (fun _ _ h => (HK.out.types _ _ _ _ h).2.2 rfl) (fun _ _ _ h => (HK.out.types _ _ _ _ h).1 rfl)
        have hp2' := (Hp2.out.below hba).fr hF2 (fun _ _ h => (HK.out.types _ _ _ _ h).2.1 rfl) (fun _ _ h => (HK.out.types _ _ _ _ h).2.2 rfl) (fun _ _ _ h => (HK.out.types _ _ _ _ h).1 rfl)
        have hdv := (hd0.fr (S := No) (Fr.of_below hba) (fun _ _ _ => id)).fr hF2 (fun _ _ _ h => (HK.out.types _ _ _ _ h).1 rfl)
        have hdw := (hd1.fr (S := No) (Fr.of_below hba) (fun _ _ _ => id)).fr hF2 (fun _ _ _ h => (HK.out.types _ _ _ _ h).1 rfl)
        have hbk := (Blk.new wr 58 #[.slice hv.a hv.n hv.c, .slice hw.a hw.n hw.c, .bool true]).fr hF2 (fun h => (HK.out.types _ _ _ _ h).2.2 rfl)
        have b0 := hbk.cell 0
        simp only [List.getElem?_toArray, List.getElem?_cons_zero] at b0
        obtain ⟨_, _, e0', e1', e2', -, -, hl2', ef'⟩ := hp2'.sector (k := k) hlt
        obtain ⟨x0', -⟩ := hp2'.1.facts
        have hfr2 : Fr S w w2 := (Hfr.out.alloc _).trans hF2
        have hz2 : wr.heap.size ≤ w2.heap.size := Nat.le_trans hba.size hF2.size
        clear c0 c1 c2 e0 e1 e2 x0 ef hd0 hd1 hbk
        cases hκ : κ k
        · have hnx := crash_next (κ := κ) hp' hp2' hlt hJ2 hfr2 hgl2 hlg0 hll0 (HK.out.keeps (k + 1)) hw (by rw [show s.val κ k = s.safe k by simp [DS.val, hκ]]; exact hdw)
          have Hnx := Lib.hid hnx
          clear hnx hp' hp2' hJ2 hfr2 hdv hdw hF2 hκ
          go_wp2
          obtain ⟨q1, q2, q3, q4⟩ := Hnx.out
          exact ⟨⟨k + 1, by omega, by go_num, q1, q2, q3, q4, by simp [World.setCell]; omega⟩, by simp [intOf]; omega⟩
        · have hnx := crash_next (κ := κ) hp' hp2' hlt hJ2 hfr2 hgl2 hlg0 hll0 (HK.out.keeps (k + 1)) hv (by rw [show s.val κ k = s.now k by simp [DS.val, hκ, Hwet.out]]; exact hdv)
          have Hnx := Lib.hid hnx
          clear hnx hp' hp2' hJ2 hfr2 hdv hdw hF2 hκ
          go_wp2
          obtain ⟨q1, q2, q3, q4⟩ := Hnx.out
          exact ⟨⟨k + 1, by omega, by go_num, q1, q2, q3, q4, by simp [World.setCell]; omega⟩, by simp [intOf]; omega⟩
    · have hkn : k = s.n := by omega
      subst hkn
      have hP := crashTo_all hp2
      go_wp2
      go_ret
      exact ⟨g2, gl2, rfl, hg2, hgl2, hP, hp, hfr, hJ⟩
end Go.Proofs.Ytadmccbminiadaa
