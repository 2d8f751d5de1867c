/- Contracts of the reference's device: a crash, the image. No condition beyond each theorem's own. -/
import Derived.Test.YtadmccbminiadaaR4
namespace Go.Proofs.Ytadmccbminiadaa
open Go.RowKit

/-- A slice of bools. -/
def Bools (w : World) (A : Option Addr) (n : Nat) (l : List Bool) : Prop :=
  l.length = n ∧ (0 < n → ∃ b o, A = some ⟨b, o, none⟩ ∧ ∀ j x, l[j]? = some x → w.cell? ⟨b, o + j, none⟩ = some (.bool x))
theorem Bools.below {w w' : World} {A : Option Addr} {n : Nat} {l : List Bool} (h : Bools w A n l) (hb : Below w.heap.size w w') : Bools w' A n l :=
  ⟨h.1, fun hn => by
    obtain ⟨b, o, e, hr⟩ := h.2 hn
    exact ⟨b, o, e, fun j x hx => below_cell hb (hr j x hx)⟩⟩
theorem Bools.at_ {w : World} {A : Option Addr} {n : Nat} {l : List Bool} (h : Bools w A n l) {k : Nat} (hk : k < n) : ∃ b o, A = some ⟨b, o, none⟩ ∧ w.cell? ⟨b, o + k, none⟩ = some (.bool (l.getD k false)) := by
  obtain ⟨b, o, e, hr⟩ := h.2 (by omega)
  have hl : k < l.length := by have := h.1; omega
  exact ⟨b, o, e, by rw [hr k l[k] (List.getElem?_eq_getElem hl)]; simp [hl]⟩
def keepOf (l : List Bool) (i : Nat) : Bool := l.getD i false

theorem rcrash_step {w : World} {h gs gn gw k : Nat} {s : DS} {κ : Nat → Bool} (hr : RD w h gs gn gw (s.crashTo κ k)) (hk : k < s.n) (hv : SH) (hd : Sect w hv (s.val κ k)) :
    RD ((w.setCell ⟨gs, k, none⟩ (.slice hv.a hv.n hv.c)).setCell ⟨gn, k, none⟩ (.slice hv.a hv.n hv.c)) h gs gn gw (s.crashTo κ (k + 1)) := by
  obtain ⟨⟨xs, xn, y1, y2, hh⟩, ne, ok, ⟨nv, sv, e1, e2, e3⟩, hwt⟩ := hr
  have hF1 : Fr (On gs 31) w (w.setCell ⟨gs, k, none⟩ (.slice hv.a hv.n hv.c)) := (Fr.refl _ w).setIn (e2.in_ on_mk) _
  have e1' := e1.fr hF1 (fun _ _ => on_ne ne.symm)
  have hF2 : Fr (On gn 31) (w.setCell ⟨gs, k, none⟩ (.slice hv.a hv.n hv.c)) ((w.setCell ⟨gs, k, none⟩ (.slice hv.a hv.n hv.c)).setCell ⟨gn, k, none⟩ (.slice hv.a hv.n hv.c)) := (Fr.refl _ _).setIn (e1'.in_ on_mk) _
  have t1 : ∀ {hv' : SH} {l : List UInt8}, Sect w hv' l → Sect ((w.setCell ⟨gs, k, none⟩ (.slice hv.a hv.n hv.c)).setCell ⟨gn, k, none⟩ (.slice hv.a hv.n hv.c)) hv' l :=
    fun d => (d.fr hF1 (fun _ _ _ => on_not (by decide))).fr hF2 (fun _ _ _ => on_not (by decide))
  refine ⟨⟨xs, xn, y1, y2, Blk.fr (Blk.fr hh hF1 (on_not (by decide))) hF2 (on_not (by decide))⟩, ne, ok, ⟨_, _, e1'.set_ hk _ _ _, (e2.set_ hk _ _ _).fr hF2 (fun _ _ => on_ne ne), fun j hj => ?_⟩, (hwt.fr hF1 (fun _ _ => on_not (by decide))).fr hF2 (fun _ _ => on_not (by decide))⟩
  obtain ⟨d1, d2⟩ := e3 j hj
  have key : ∀ f : Nat → SH, Sect w (f j) (if j < k then s.val κ j else zero256) → Sect ((w.setCell ⟨gs, k, none⟩ (.slice hv.a hv.n hv.c)).setCell ⟨gn, k, none⟩ (.slice hv.a hv.n hv.c)) (upd f k ⟨hv.a, hv.n, hv.c⟩ j) (if j < k + 1 then s.val κ j else zero256) := by
    intro f hf
    by_cases e : j = k
    · subst e
      simp only [upd, if_pos]
      rw [if_pos (by omega)]
      exact t1 hd
    · simp only [upd, if_neg e]
      have e2 : (if j < k + 1 then s.val κ j else zero256) = (if j < k then s.val κ j else zero256) := by
        by_cases e3 : j < k
        · rw [if_pos e3, if_pos (by omega)]
        · rw [if_neg e3, if_neg (by omega)]
      rw [e2]
      exact t1 hf
  exact ⟨key nv d1, key sv d2⟩

theorem rcrashTo_all {w : World} {h gs gn gw : Nat} {s : DS} {κ : Nat → Bool} (hr : RD w h gs gn gw (s.crashTo κ s.n)) : RD w h gs gn gw (s.crash κ) := by
  obtain ⟨hh, ne, ok, ⟨nv, sv, e1, e2, e3⟩, hw⟩ := hr
  refine ⟨hh, ne, ok, ⟨nv, sv, e1, e2, fun i hi => ?_⟩, hw⟩
  have := e3 i hi
  simp only [DS.crashTo] at this
  rwa [if_pos (show i < s.n from hi)] at this

def RCrashOk (w : World) (s : DS) (κ : Nat → Bool) (e : Ending) (w' : World) : Prop :=
  ∃ h gs gn gw, e = .returned (.pointer (some ⟨h, 0, none⟩)) ∧ w.heap.size ≤ h ∧ w.heap.size ≤ gs ∧ w.heap.size ≤ gn ∧ w.heap.size ≤ gw ∧ RD w' h gs gn gw (s.crash κ) ∧ Below w.heap.size w w'

set_option maxRecDepth 100000 in
set_option maxHeartbeats 2000000 in
theorem rcrash_any {w : World} {h gs gn gw : Nat} {s : DS} (hr : RD w h gs gn gw s) (h1 : 1 ≤ s.n) (hn : s.n ≤ 65536) (A : Option Addr) (n c : Nat) (l : List Bool) (hB : Bools w A n l) :
    Calls Try.prog 19 #[.pointer (some ⟨h, 0, none⟩), .slice A n c] w (RCrashOk w s (keepOf l)) := by
  obtain ⟨cs, cn, l1, l2, hh⟩ := hr.head
  obtain ⟨-, h1', -⟩ := hh.facts
  have HR := Lib.hid hr
  clear hr hh
  go_enter Try.func19, Try.ntmps19
  go_wp2_with (go_at_call 9; refine (rnew_ok s.n _ h1 hn).mono ?_; rintro e w1 ⟨h2, gs2, gn2, gw2, rfl, b1, b2, b3, b4, hP2, hb⟩)
  rw [new_crashTo s (keepOf l)] at hP2
  have hg0 : w.heap.size ≤ w1.heap.size := hb.size
  clear h1'
  go_loopw [6, 7] (fun i _ wr => ∃ k : Nat, k ≤ s.n ∧ i = .int .i64 k ∧ RD wr h2 gs2 gn2 gw2 (s.crashTo (keepOf l) k) ∧ Below w.heap.size w wr) (fun i _ _ => s.n - (intOf i).toNat)
  case atStart => exact ⟨0, by omega, rfl, hP2, hb⟩
  case round =>
    obtain ⟨k, hk, rfl, hp2, hbr⟩ := hrel
    have hp := HR.out.below hbr
    obtain ⟨cs1, cn1, m1, m2, hh⟩ := hp.head
    obtain ⟨x0, x1, x2, -, -, -⟩ := hh.facts
    by_cases hlt : k < s.n
    · obtain ⟨cs3, cn3, m3, m4, hh2⟩ := hp2.head
      obtain ⟨y0, y1, -, -, -, yf⟩ := hh2.facts
      have en : (s.crashTo (keepOf l) k).n = s.n := rfl
      rw [en] at y0 y1 m3 m4
      obtain ⟨nv, sv, e1, e2, e3⟩ := hp.data
      obtain ⟨c0, hln, -⟩ := e1.cell hlt
      obtain ⟨c1, hls, -⟩ := e2.cell hlt
      obtain ⟨v0, hlw, -⟩ := hp.wets.cell hlt
      obtain ⟨nv2, sv2, f1, f2, -⟩ := hp2.data
      obtain ⟨d0, hln2, fn2⟩ := f1.cell hlt
      obtain ⟨d1, hls2, fs2⟩ := f2.cell hlt
      have hne : gs2 ≠ gn2 := hp2.ne
      have hne1 : gs2 ≠ h2 := by obtain ⟨x, q1, _⟩ := f2; exact Blk.ne_ q1 hh2 (by decide)
      have hBr := hB.below hbr
      have hlen := hB.1
      have hst := fun hv hd => rcrash_step hp2 hlt hv hd
      obtain ⟨hdn, hds⟩ := e3 k hlt
      have Hst := Lib.hid hst
      have Hbr := Lib.hid hbr
      have hf1 : ∀ hv : SH, Below w.heap.size w ((wr.setCell ⟨gs2, k, none⟩ (.slice hv.a hv.n hv.c)).setCell ⟨gn2, k, none⟩ (.slice hv.a hv.n hv.c)) := fun hv =>
        (Hbr.out.setCell (p := ⟨gs2, _, none⟩) b2 _).setCell (p := ⟨gn2, _, none⟩) b3 _
      have HF1 := Lib.hid hf1
      have hk1 := fun u => cell_far1 (k := k) (u := u) hne1 y1
      have hk2 := fun u => cell_far1 (k := k) (u := u) hne d0
      have HK2 := Lib.hid hdn
      have HK3 := Lib.hid hds
      have Hlen := Lib.hid hlen
      clear hp hp2 hh hh2 e1 e2 e3 f1 f2 hst hbr hf1 en hdn hds hlen
      cases hwet : s.wet k
      · rw [hwet] at v0
        have hval : s.val (keepOf l) k = s.safe k := by simp [DS.val, hwet]
        have Hval := Lib.hid hval
        clear hval hwet
        go_wp2
        exact ⟨⟨k + 1, by omega, by go_num, Hst.out (sv k) (Hval.out ▸ HK3.out), HF1.out _⟩, by simp [intOf]; omega⟩
      · rw [hwet] at v0
        by_cases hkn : k < n
        · obtain ⟨bb, bo, he, q0⟩ := hBr.at_ (k := k) hkn
          cases he
          cases hkp : l.getD k false
          · rw [hkp] at q0
            have hval : s.val (keepOf l) k = s.safe k := by unfold DS.val keepOf; rw [hkp]; simp
            have Hval := Lib.hid hval
            clear hval hwet hkp
            go_wp2
            exact ⟨⟨k + 1, by omega, by go_num, Hst.out (sv k) (Hval.out ▸ HK3.out), HF1.out _⟩, by simp [intOf]; omega⟩
          · rw [hkp] at q0
            have hval : s.val (keepOf l) k = s.now k := by unfold DS.val keepOf; rw [hkp, hwet]; simp
            have Hval := Lib.hid hval
            clear hval hwet hkp
            go_wp2
            exact ⟨⟨k + 1, by omega, by go_num, Hst.out (nv k) (Hval.out ▸ HK2.out), HF1.out _⟩, by simp [intOf]; omega⟩
        · have hval : s.val (keepOf l) k = s.safe k := by
            have : l.getD k false = false := by have := Hlen.out; simp [List.getElem?_eq_none (show l.length ≤ k by omega)]
            unfold DS.val keepOf; rw [this]; simp
          have Hval := Lib.hid hval
          clear hval hwet
          have hlt2 : ¬ (k : Int) < n := by omega
          go_wp2
          exact ⟨⟨k + 1, by omega, by go_num, Hst.out (sv k) (Hval.out ▸ HK3.out), HF1.out _⟩, by simp [intOf]; omega⟩
    · have hkn : k = s.n := by omega
      subst hkn
      have hP := rcrashTo_all hp2
      clear hp hp2
      go_wp2
      go_ret
      exact ⟨h2, gs2, gn2, gw2, rfl, b1, b2, b3, b4, hP, hbr⟩

set_option maxHeartbeats 1000000 in
theorem rimage_any {w : World} {h gs gn gw : Nat} {s : DS} (hr : RD w h gs gn gw s) (hn : s.n ≤ 65536) :
    Calls Try.prog 22 #[.pointer (some ⟨h, 0, none⟩)] w (ImgOk w (image s.now s.n)) := by
  have H := Lib.hid hr
  have Hlen : Hid (∀ i, i < s.n → (s.now i).length = 256) := by
    obtain ⟨nv, sv, _, _, hd⟩ := hr.data
    exact fun i hi => by obtain ⟨_, e, b, _⟩ := (hd i hi).1; exact b.1
  clear hr
  go_enter Try.func22, Try.ntmps22
  go_wp2
  go_loopw [3, 4] (fun v i wr => ∃ k : Nat, k ≤ s.n ∧ i = .int .i64 k ∧ wr.ownsRow w.heap.size 5 1 v (k * 256) ((image s.now k).map B8) ∧ Below w.heap.size w wr) (fun _ i _ => s.n - (intOf i).toNat)
  case atStart => exact ⟨0, by omega, rfl, World.ownsRow_nil _ _ _ _, Below.refl _ _⟩
  case round =>
    obtain ⟨k, hk, rfl, ho, hb⟩ := hrel
    have hp := H.out.below hb
    obtain ⟨cs1, cn1, m1, m2, hh⟩ := hp.head
    obtain ⟨x0, x1, x2, -, -, -⟩ := hh.facts
    by_cases hlt : k < s.n
    · obtain ⟨nv, sv, e1, e2, e3⟩ := hp.data
      obtain ⟨c0, hln, -⟩ := e1.cell hlt
      obtain ⟨q1, q2, q3, q4⟩ := (e3 k hlt).1
      have hbs := hb.size
      have Hb := Lib.hid hb
      have Ho := Lib.hid ho
      have Hq2 := Lib.hid q2
      clear hb hh e1 e2 e3 hp q2 ho
      go_wp2_with (at_builtin; refine wpList_append_bytes _ rfl (.tmp 14) (.tmp 21) 31 rfl w.heap.size 5 Try.underlying31 info5 u3 (k * 256) _ rfl Ho.out (nv k).a (nv k).n (nv k).c _ rfl (Hq2.out ▸ q3) (by have := Hq2.out; omega) (by omega) ?_; intro v' w2 hown hg hat)
      refine ⟨⟨k + 1, by omega, by go_num, ?_, ?_⟩, by simp [intOf]; omega⟩
      · rw [image_succ, show (k + 1) * 256 = k * 256 + 256 by omega]; have hown2 := hown; rw [Hq2.out] at hown2; exact hown2
      · exact below_grown Ho.out Hb.out hg hbs
    · have hkn : k = s.n := by omega
      subst hkn
      have Ho := Lib.hid ho
      clear hp hh ho
      go_wp2
      go_ret
      have ho := Ho.out
      have hl := image_length s.now s.n Hlen.out
      rw [← hl] at ho
      rcases ho.2 with ⟨rfl, hx⟩ | ⟨g', cap, cur, rfl, _, _, hcap, _⟩
      · have hx : image s.now s.n = [] := by simpa using hx
        rw [hx]
        exact ⟨none, 0, rfl, Nat.le_refl _, Bytes.nil _ _, hb⟩
      · exact ⟨_, _, rfl, hcap, Bytes.of_own ho, hb⟩
end Go.Proofs.Ytadmccbminiadaa
