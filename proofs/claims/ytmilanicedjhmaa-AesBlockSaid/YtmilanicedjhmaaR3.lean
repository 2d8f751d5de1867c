/- The block cipher: the law's walk. No condition. -/
import Derived.Test.YtmilanicedjhmaaR5
namespace Go.Proofs.Ytmilanicedjhmaa
open Go.RowKit
set_option linter.unusedSimpArgs false
attribute [local go_sem] Oper.semAt_some KeyAt.enc

set_option maxRecDepth 100000 in
set_option maxHeartbeats 4000000 in
theorem block_nokey {w : World} (A A2 : Option Addr) (n c n2 c2 : Nat) (key l : List UInt8) (hK : Bytes w A n key) (hB : Bytes w A2 n2 l) (hc : n ≤ c) (hc2 : n2 ≤ c2) (h : n ≠ 16 ∧ n ≠ 24 ∧ n ≠ 32) : Calls Try.prog 3 #[.slice A n c, .slice A2 n2 c2] w (LawOk w) := by
  obtain ⟨m, hm⟩ : ∃ m, min n 40 = m := ⟨_, rfl⟩
  obtain ⟨m2, hm2⟩ : ∃ m, min n2 20 = m := ⟨_, rfl⟩
  have hm3 : m ≠ 16 ∧ m ≠ 24 ∧ m ≠ 32 := by omega
  have Hm := Lib.hid (And.intro hm (And.intro hc (And.intro hm2 hc2)))
  have HB := Lib.hid (And.intro hK hB)
  have Hn := Lib.hid hm3
  clear hK hB hm hc hm2 hc2 hm3 h
  have t1 : True := trivial
  have t2 : True := trivial
  go_enter Try.func3, Try.ntmps3
  go_wp2_with (first
    | (go_at_call 14; refine (begun5 _).mono ?_; rintro e w0 ⟨rfl, hb0⟩
       have hl0 : Below w.heap.size w w0 := ((Below.refl _ w).alloc (Nat.le_refl _) _).trans (hb0.mono (by simp))
       have hs1 := short_to (HB.out.1.below hl0) Hm.out.2.1 Hm.out.1 (kI := 40) rfl
       have hs2 := short_to (HB.out.2.below hl0) Hm.out.2.2.2 Hm.out.2.2.1 (kI := 20) rfl)
    | (clear t1; go_at_call 15; refine hs1.mono ?_; rintro e w1 ⟨rfl, rfl⟩)
    | (clear t2; go_at_call 15; refine hs2.mono ?_; rintro e w2 ⟨rfl, rfl⟩)
    | (go_at_call 16; refine (new_no A m c _ Hn.out).mono ?_; rintro e w3 ⟨rfl, rfl⟩)
    | (go_at_call 17; refine (rnew_no A m c _ Hn.out).mono ?_; rintro e w4 ⟨rfl, rfl⟩)
    | (go_at_call 18; refine (enc_nil A2 m2 c2 _).mono ?_; rintro e w5 ⟨rfl, hb5⟩
       have hr0 : Blk w0 w.heap.size 4 #[.bool false] := (Blk.new w 4 _).below hb0 (by simp)
       have hr5 : Blk w5 w.heap.size 4 #[.bool false] := (hr0.alloc _).below hb5 (hr0.alloc _).lt
       have hl5 : Below w.heap.size w w5 := (hl0.alloc hl0.size _).trans (hb5.mono (hl0.alloc hl0.size _).size)
       have cr := hr5.cell 0
       simp only [List.getElem?_toArray, List.getElem?_cons_zero] at cr
       have fr := hr5.frozen 0
       have HR := Lib.hid (And.intro hr5 hl5)
       clear hr0 hr5 hl5 hb5)
    | (go_at_call 19; refine (dec_nil A2 m2 c2 _).mono ?_; rintro e w6 ⟨rfl, rfl⟩))
  refine bodyPost_ret (v := .bool true) ?_ rfl ⟨rfl, HR.out.2.setCell (p := ⟨w.heap.size, 0, none⟩) (Nat.le_refl _) _⟩
  simp [results, Try.results3, go_sem, cr]
--MAIN
theorem RC.fr {S : Nat → Obj → Prop} {w w' : World} {g gk gw nw : Nat} {key : List UInt8} (h : RC w g gk gw nw key) (hf : Fr S w w') (hS : ∀ k o, k < w.heap.size → ¬ S k o) : RC w' g gk gw nw key := by
  obtain ⟨kc, a, b, h0, h1, h2, h3, h4, h5⟩ := h
  have hc : ∀ {p : Addr} {v : Value}, w.cell? p = some v → w'.cell? p = some v := fun {p v} hp => hf.cell hp (fun o ho => hS _ o (lt_of_heap ho))
  exact ⟨kc, a, b, h0, h1.fr hf (hS _ _ h1.lt), h2.fr hf (hS _ _ h2.lt), h3.fr hf (hS _ _ h3.lt), fun k hk => hc (h4 k hk), fun k j hk hj => hc (h5 k j hk hj)⟩

set_option maxRecDepth 100000 in
set_option maxHeartbeats 8000000 in
theorem block_some {w : World} (A A2 : Option Addr) (c n2 c2 nw : Nat) (key l : List UInt8) (hw : nw = 4 ∨ nw = 6 ∨ nw = 8) (hK : Bytes w A (4 * nw) key) (hB : Bytes w A2 n2 l) (hc : 4 * nw ≤ c) (hc2 : n2 ≤ c2) : Calls Try.prog 3 #[.slice A (4 * nw) c, .slice A2 n2 c2] w (LawOk w) := by
  obtain ⟨m2, hm2⟩ : ∃ m, min n2 20 = m := ⟨_, rfl⟩
  have hq := fun (w : World) (f : Nat) (cap : Array Value) => (show (binOp .eql 31 (.func (.func f) #[] cap) .nilFunc).run Try.prog w = .ok (.bool false) w by kernel_rfl)
  have hnw : nw ≤ 8 := by omega
  have Hm := Lib.hid (And.intro hc (And.intro hm2 (And.intro hc2 (show min (4 * nw) 40 = 4 * nw by omega))))
  have HB := Lib.hid (And.intro hK hB)
  have Hw := Lib.hid hw
  clear hK hB hc hm2 hc2 hw
  have t1 : True := trivial
  have t2 : True := trivial
  refine (callsIn_wide (n := 5)).1 ?_
  refine callsIn_of_wp_marks Try.func3 rfl trivial ?_ rfl
  simp only [Try.ntmps3, List.size_toArray, List.length_cons, List.length_nil, Nat.reduceAdd, Nat.reduceSub, Array.replicate_succ, Array.replicate_zero, List.push_toArray, List.append_toArray, List.nil_append, List.cons_append]
  gi_wp2_with (first
    | (refine ⟨trivial, ?_⟩; gi_at_call 14; refine (callsIn_wide.2 (begun5 _)).mono ?_; rintro e w0 ⟨rfl, hb0⟩
       have hl0 : Below w.heap.size w w0 := ((Below.refl _ w).alloc (Nat.le_refl _) _).trans (hb0.mono (by simp))
       have hr0 : Blk w0 w.heap.size 4 #[.bool false] := (Blk.new w 4 _).below hb0 (by simp)
       have hs1 := short_to (HB.out.1.below hl0) Hm.out.1 Hm.out.2.2.2 (kI := 40) rfl
       have hs2 := short_to (HB.out.2.below hl0) Hm.out.2.2.1 Hm.out.2.1 (kI := 20) rfl
       have hnew := new_some A c nw key w0 Hw.out (HB.out.1.below hl0)
       have H0 := Lib.hid (And.intro hl0 hr0)
       clear hl0 hr0 hb0)
    | (clear t1; refine ⟨trivial, ?_⟩; gi_at_call 15; refine (callsIn_wide.2 hs1).mono ?_; rintro e w1 ⟨rfl, rfl⟩)
    | (clear t2; refine ⟨trivial, ?_⟩; gi_at_call 15; refine (callsIn_wide.2 hs2).mono ?_; rintro e w2 ⟨rfl, rfl⟩)
    | (refine ⟨trivial, ?_⟩; gi_at_call 16; refine (callsIn_wide.2 hnew).mono ?_; rintro e w1 ⟨g, gk, rfl, hg, hgk, hP, hb1⟩
       have hl1 : Below w.heap.size w w1 := H0.out.1.trans (hb1.mono H0.out.1.size)
       have hrnew := rnew_some A c nw key w1 Hw.out (HB.out.1.below hl1)
       have H1 := Lib.hid (And.intro hl1 (And.intro (H0.out.2.below hb1 H0.out.2.lt) (And.intro hP (And.intro hg hgk))))
       clear hl1 hb1 hP hnew hg hgk)
    | (refine ⟨trivial, ?_⟩; gi_at_call 17; refine (callsIn_wide.2 hrnew).mono ?_; rintro e w2 ⟨g2, gk2, gw2, rfl, hg2, hgk2, hgw2, hR, hb2⟩
       have H2 := Lib.hid (And.intro (H1.out.1.trans (hb2.mono H1.out.1.size)) (And.intro (H1.out.2.1.below hb2 H1.out.2.1.lt) (And.intro (PC.below H1.out.2.2.1 hb2) (And.intro hR (And.intro hg2 (And.intro hgk2 (And.intro hgw2 (And.intro H1.out.2.2.2.1 H1.out.2.2.2.2))))))))
       clear hb2 hR hrnew hg2 hgk2 hgw2)
    | (refine ⟨trivial, ?_⟩; gi_at_call 20; refine (callsIn_wide.2 (keys_any _ _)).mono ?_; rintro e w5 ⟨rfl, rfl⟩))
  obtain ⟨Wr, hWr⟩ : ∃ Wr : World, Wr = ((w2.alloc (Obj.cells #[Value.pointer (some { block := g2, off := 0 })] 27)).alloc (Obj.cells #[Value.pointer (some { block := g, off := 0 })] 25)).alloc (Obj.cells #[Value.int IntKind.i64 0] 3) := ⟨_, rfl⟩
  have hs : Wr.heap.size = w2.heap.size + 3 := by rw [hWr]; simp
  have hb2r : Below w2.heap.size w2 Wr := by rw [hWr]; exact (((Below.refl _ w2).alloc (Nat.le_refl _) _).alloc (by simp) _).alloc (by simp; omega) _
  have hRb : Blk Wr w2.heap.size 27 #[.pointer (some ⟨g2, 0, none⟩)] := by rw [hWr]; exact Blk.alloc (heap_alloc2_old w2 _ _) _
  have hKb : Blk Wr (w2.heap.size + 1) 25 #[.pointer (some ⟨g, 0, none⟩)] := by rw [hWr]; exact Blk.alloc (heap_alloc2_new w2 _ _) _
  have hCb : Blk Wr (w2.heap.size + 2) 3 #[.int .i64 0] := by
    have e : w2.heap.size + 2 = ((w2.alloc (Obj.cells #[Value.pointer (some { block := g2, off := 0 })] 27)).alloc (Obj.cells #[Value.pointer (some { block := g, off := 0 })] 25)).heap.size := by simp
    rw [hWr, e]
    exact Blk.new _ 3 _
  have hPr : PC Wr g gk nw key := PC.below H2.out.2.2.1 hb2r
  have hgl : g < w2.heap.size ∧ gk < w2.heap.size := by
    obtain ⟨kc, h0, h1, h2⟩ := H2.out.2.2.1
    exact ⟨h1.lt, World.block_lt_of_cell? w2 _ (h2 0 0 (by omega) (by omega))⟩
  have hlw := H2.out.1.size
  have Hr := Lib.hid (And.intro hb2r hRb)
  rw [← hWr]
  clear hWr hb2r hRb hq
  refine wpIn_rangeFunc_X rfl (by omega) (gf := 51) (lb := #[.pointer (some ⟨w2.heap.size + 1, 0, none⟩)]) rfl trivial enters51 (keys_seq (by omega) hKb hPr hnw) (fun h k => Fr.trans h k)
    (fun W l o o' hl h hc _ => fr_put (fun k o hn => by
      rcases Classical.em (k < l) with h | h
      · exact h
      · exact (hn ⟨by omega, by omega, by omega⟩).elim))
    (fun pre x W l o o' hl h hc _ hG => ⟨hG.1, hG.2.1.kc (kc_put h hc), hG.2.2⟩)
    (fun A B k o h hk ho _ _ => (h.block k (lt_of_heap ho)).trans ho) (fun o o' => ((Below.refl _ Wr).alloc (Nat.le_refl _) _).alloc (by simp) _) (fun _ => rfl)
    (fun pre W => Blk W (w2.heap.size + 2) 3 #[.int .i64 (pre.length : Int)] ∧ Fr (OnB (w2.heap.size + 2)) Wr W) (fun _ _ _ => False)
    (fun s W W' row hi hg hr => ⟨hi.1.kc (kc_grown hg (fun r e => (hr r e).2)), hi.2.grown hg (fun k e => (hr k e).1)⟩)
    (fun _ _ _ _ _ hs _ _ => hs) (fun s A B hi h => ⟨hi.1.kc (grows_kc h), hi.2.trans (Fr.of_below h)⟩) (fun _ _ _ _ h _ => h) ⟨hCb, Fr.refl _ _⟩ ?a1 ?assign ?body ?done ?stop
  case assign =>
    intro l x W K hK
    gi_wp2
    exact hK
  case body =>
    rintro l pre ⟨xi, xa, xc⟩ W ⟨hc, hf⟩ hG hlen
    obtain ⟨k, hk⟩ : ∃ k, pre.length = k := ⟨_, rfl⟩
    have hxi : xi = pre.length := hG.1
    obtain rfl : xi = k := by omega
    have hat : At W xa 16 (rkey nw key xi) := hG.2.1
    obtain ⟨L, hL⟩ : ∃ L, L = tab 16 (rkey nw key xi) := ⟨_, rfl⟩
    have hbW : Below w2.heap.size w2 W := below_new Hr.out.1 hf (by omega) (by omega)
    obtain ⟨kc2, ra, rb, q0, q1, -, -, q4, q5⟩ := RC.below H2.out.2.2.2.1 hbW
    rw [hk] at hc hlen
    have c1 : W.drew.cell? ⟨w2.heap.size + 2, 0, none⟩ = some (.int .i64 (xi : Int)) := hc.cell 0
    have f1 := hc.frozen 0
    have c2' : W.drew.cell? ⟨w2.heap.size, 0, none⟩ = some (.pointer (some ⟨g2, 0, none⟩)) := (Hr.out.2.fr hf (fun e => by have e : w2.heap.size = w2.heap.size + 2 := e; omega)).cell 0
    have c3 : W.drew.cell? ⟨g2, 0, none⟩ = some (.slice (some ⟨gk2, 0, none⟩) (nw + 7 : Nat) kc2) := q1.cell 0
    have c4 : W.drew.cell? ⟨gk2, xi, none⟩ = some (.slice (some ⟨gw2, 16 * xi, none⟩) 16 16) := q4 xi hlen
    have c5 : (convert 22 9 (.slice xa 16 xc)).run Try.prog W.drew = .ok (.string (bstr L)) W.drew := conv_str (w := W.drew) (l := L) (by rw [hL]; exact hat.bytes16) (fun e => by omega)
    have hat2 : At W (some ⟨gw2, 16 * xi, none⟩) 16 (rkey nw key xi) := fun _ => ⟨gw2, 16 * xi, rfl, fun j hj => q5 xi j hlen hj⟩
    have c6 : (convert 22 9 (.slice (some ⟨gw2, 16 * xi, none⟩) 16 16)).run Try.prog W.drew = .ok (.string (bstr L)) W.drew := conv_str (w := W.drew) (l := L) (by rw [hL]; exact hat2.bytes16) (fun e => by omega)
    have hl2 : (xi : Int) < nw + 7 := by omega
    have hl3 : (xi : Int) < (nw + 7 : Nat) := by omega
    have hl4 : ¬ (xi : Int) ≥ (nw + 7 : Nat) := by omega
    have hx0 : (0 : Int) ≤ xi := by omega
    have hg1 : decide (((nw + 7 : Nat) : Int) ≤ (xi : Int)) = false := decide_eq_false (by omega)
    have hg2 : decide ((nw : Int) + 7 ≤ (xi : Int)) = false := decide_eq_false (by omega)
    have heq : ((bstr L).toList == (bstr L).toList) = true := by simp
    have Hc := Lib.hid (And.intro hc (And.intro hf (And.intro q0 (And.intro hL hk))))
    clear hc hf hG hat hat2 q0 q1 q4 q5 hxi hlen hbW hL hk
    gi_upto_region 14 with fail
    refine wp_region_T_round (fun w' => w'.cell? ⟨w2.heap.size + 2, 0, none⟩ = some (.int .i64 (xi : Int)) ∧ w'.cell? ⟨w2.heap.size, 0, none⟩ = some (.pointer (some ⟨g2, 0, none⟩)) ∧ w'.cell? ⟨g2, 0, none⟩ = some (.slice (some ⟨gk2, 0, none⟩) (nw + 7 : Nat) kc2) ∧ w'.cell? ⟨gk2, xi, none⟩ = some (.slice (some ⟨gw2, 16 * xi, none⟩) 16 16) ∧ (convert 22 9 (.slice xa 16 xc)).run Try.prog w' = .ok (.string (bstr L)) w' ∧ (convert 22 9 (.slice (some ⟨gw2, 16 * xi, none⟩) 16 16)).run Try.prog w' = .ok (.string (bstr L)) w') [] (by kernel_rfl) (by kernel_rfl) ?_ (fun hHeld => ?_)
    · exact ⟨c1, c2', c3, c4, c5, c6⟩
    refine wpAnyT_take (i := 0) (v := ?_) (by simp only [List.getElem?_toArray, List.getElem?_cons_zero, List.getElem?_cons_succ]; rfl) (by kernel_rfl) (by kernel_rfl) (by kernel_rfl) (by kernel_rfl) (by kernel_rfl) (fun _ _ _ h => h) (Or.inl ⟨by rfl, ?_⟩) (by assumption) ?_
    rotate_left
    · intro w hSw; (try dsimp only at hSw); go_simp; try (with_reducible rfl)
    try simp only [Act.put, List.setIfInBounds_toArray, List.set_cons_zero, List.set_cons_succ]
    refine wpAnyT_take (i := 1) (v := ?_) (by simp only [List.getElem?_toArray, List.getElem?_cons_zero, List.getElem?_cons_succ]; rfl) (by kernel_rfl) (by kernel_rfl) (by kernel_rfl) (by kernel_rfl) (by kernel_rfl) (fun _ _ _ h => h) (Or.inl ⟨by rfl, ?_⟩) (by assumption) ?_
    rotate_left
    · intro w hSw; (try dsimp only at hSw); go_simp; try (with_reducible rfl)
    try simp only [Act.put, List.setIfInBounds_toArray, List.set_cons_zero, List.set_cons_succ]
    refine wpAnyT_take (i := 2) (v := ?_) (by simp only [List.getElem?_toArray, List.getElem?_cons_zero, List.getElem?_cons_succ]; rfl) (by kernel_rfl) (by kernel_rfl) (by kernel_rfl) (by kernel_rfl) (by kernel_rfl) (fun _ _ _ h => h) (Or.inl ⟨by rfl, ?_⟩) (by assumption) ?_
    rotate_left
    · intro w hSw; (try dsimp only at hSw); go_simp; try (with_reducible rfl)
    try simp only [Act.put, List.setIfInBounds_toArray, List.set_cons_zero, List.set_cons_succ]
    refine wpAnyT_take (i := 3) (v := ?_) (by simp only [List.getElem?_toArray, List.getElem?_cons_zero, List.getElem?_cons_succ]; rfl) (by kernel_rfl) (by kernel_rfl) (by kernel_rfl) (by kernel_rfl) (by kernel_rfl) (fun _ _ _ h => h) (Or.inl ⟨by rfl, ?_⟩) (by assumption) ?_
    rotate_left
    · intro w hSw; (try dsimp only at hSw); go_simp; try (with_reducible rfl)
    try simp only [Act.put, List.setIfInBounds_toArray, List.set_cons_zero, List.set_cons_succ]
    refine wpAnyT_take (i := 4) (v := ?_) (by simp only [List.getElem?_toArray, List.getElem?_cons_zero, List.getElem?_cons_succ]; rfl) (by kernel_rfl) (by kernel_rfl) (by kernel_rfl) (by kernel_rfl) (by kernel_rfl) (fun _ _ _ h => h) (Or.inl ⟨by rfl, ?_⟩) (by assumption) ?_
    rotate_left
    · intro w hSw; (try dsimp only at hSw); go_simp; try (with_reducible rfl)
    try simp only [Act.put, List.setIfInBounds_toArray, List.set_cons_zero, List.set_cons_succ]
    refine wpAnyT_take (i := 5) (v := ?_) (by simp only [List.getElem?_toArray, List.getElem?_cons_zero, List.getElem?_cons_succ]; rfl) (by kernel_rfl) (by kernel_rfl) (by kernel_rfl) (by kernel_rfl) (by kernel_rfl) (fun _ _ _ h => h) (Or.inl ⟨by rfl, ?_⟩) (by assumption) ?_
    rotate_left
    · intro w hSw; (try dsimp only at hSw); go_simp; try (with_reducible rfl)
    try simp only [Act.put, List.setIfInBounds_toArray, List.set_cons_zero, List.set_cons_succ]
    refine wpAnyT_take (i := 6) (v := ?_) (by simp only [List.getElem?_toArray, List.getElem?_cons_zero, List.getElem?_cons_succ]; rfl) (by kernel_rfl) (by kernel_rfl) (by kernel_rfl) (by kernel_rfl) (by kernel_rfl) (fun _ _ _ h => h) (Or.inl ⟨by rfl, ?_⟩) (by assumption) ?_
    rotate_left
    · intro w hSw; (try dsimp only at hSw); go_simp; try (with_reducible rfl)
    try simp only [Act.put, List.setIfInBounds_toArray, List.set_cons_zero, List.set_cons_succ]
    refine wpAnyT_take (i := 7) (v := ?_) (by simp only [List.getElem?_toArray, List.getElem?_cons_zero, List.getElem?_cons_succ]; rfl) (by kernel_rfl) (by kernel_rfl) (by kernel_rfl) (by kernel_rfl) (by kernel_rfl) (fun _ _ _ h => h) (Or.inl ⟨by rfl, ?_⟩) (by assumption) ?_
    rotate_left
    · intro w hSw; (try dsimp only at hSw); go_simp; try (with_reducible rfl)
    try simp only [Act.put, List.setIfInBounds_toArray, List.set_cons_zero, List.set_cons_succ]
    refine wpAnyT_take (i := 8) (v := ?_) (by simp only [List.getElem?_toArray, List.getElem?_cons_zero, List.getElem?_cons_succ]; rfl) (by kernel_rfl) (by kernel_rfl) (by kernel_rfl) (by kernel_rfl) (by kernel_rfl) (fun _ _ _ h => h) (Or.inl ⟨by rfl, ?_⟩) (by assumption) ?_
    rotate_left
    · intro w hSw; (try dsimp only at hSw); go_simp; try (with_reducible rfl)
    try simp only [Act.put, List.setIfInBounds_toArray, List.set_cons_zero, List.set_cons_succ]
    refine wpAnyT_take (i := 9) (v := ?_) (by simp only [List.getElem?_toArray, List.getElem?_cons_zero, List.getElem?_cons_succ]; rfl) (by kernel_rfl) (by kernel_rfl) (by kernel_rfl) (by kernel_rfl) (by kernel_rfl) (fun _ _ _ h => h) (Or.inl ⟨by rfl, ?_⟩) (by assumption) ?_
    rotate_left
    · intro w hSw; (try dsimp only at hSw); go_simp; try (with_reducible rfl)
    try simp only [Act.put, List.setIfInBounds_toArray, List.set_cons_zero, List.set_cons_succ]
    refine wpAnyT_take (i := 10) (v := ?_) (by simp only [List.getElem?_toArray, List.getElem?_cons_zero, List.getElem?_cons_succ]; rfl) (by kernel_rfl) (by kernel_rfl) (by kernel_rfl) (by kernel_rfl) (by kernel_rfl) (fun _ _ _ h => h) (Or.inl ⟨by rfl, ?_⟩) (by assumption) ?_
    rotate_left
    · intro w hSw; (try dsimp only at hSw); go_simp; try (with_reducible rfl)
    try simp only [Act.put, List.setIfInBounds_toArray, List.set_cons_zero, List.set_cons_succ]
    refine wpAnyT_take (i := 11) (v := ?_) (by simp only [List.getElem?_toArray, List.getElem?_cons_zero, List.getElem?_cons_succ]; rfl) (by kernel_rfl) (by kernel_rfl) (by kernel_rfl) (by kernel_rfl) (by kernel_rfl) (fun _ _ _ h => h) (Or.inl ⟨by rfl, ?_⟩) (by assumption) ?_
    rotate_left
    · intro w hSw; (try dsimp only at hSw); go_simp; try (with_reducible rfl)
    try simp only [Act.put, List.setIfInBounds_toArray, List.set_cons_zero, List.set_cons_succ]
    refine wpAnyT_take (i := 12) (v := ?_) (by simp only [List.getElem?_toArray, List.getElem?_cons_zero, List.getElem?_cons_succ]; rfl) (by kernel_rfl) (by kernel_rfl) (by kernel_rfl) (by kernel_rfl) (by kernel_rfl) (fun _ _ _ h => h) (Or.inl ⟨by rfl, ?_⟩) (by assumption) ?_
    rotate_left
    · intro w hSw; (try dsimp only at hSw); go_simp; try (with_reducible rfl)
    try simp only [Act.put, List.setIfInBounds_toArray, List.set_cons_zero, List.set_cons_succ]
    refine wpAnyT_take (i := 13) (v := ?_) (by simp only [List.getElem?_toArray, List.getElem?_cons_zero, List.getElem?_cons_succ]; rfl) (by kernel_rfl) (by kernel_rfl) (by kernel_rfl) (by kernel_rfl) (by kernel_rfl) (fun _ _ _ h => h) (Or.inl ⟨by rfl, ?_⟩) (by assumption) ?_
    rotate_left
    · intro w hSw; (try dsimp only at hSw); go_simp; try (with_reducible rfl)
    try simp only [Act.put, List.setIfInBounds_toArray, List.set_cons_zero, List.set_cons_succ]
    refine wpAnyT_take (i := 14) (v := ?_) (by simp only [List.getElem?_toArray, List.getElem?_cons_zero, List.getElem?_cons_succ]; rfl) (by kernel_rfl) (by kernel_rfl) (by kernel_rfl) (by kernel_rfl) (by kernel_rfl) (fun _ _ _ h => h) (Or.inl ⟨by rfl, ?_⟩) (by assumption) ?_
    rotate_left
    · intro w hSw; (try dsimp only at hSw); go_simp; try (with_reducible rfl)
    try simp only [Act.put, List.setIfInBounds_toArray, List.set_cons_zero, List.set_cons_succ]
    refine wpAnyT_take (i := 15) (v := ?_) (by simp only [List.getElem?_toArray, List.getElem?_cons_zero, List.getElem?_cons_succ]; rfl) (by kernel_rfl) (by kernel_rfl) (by kernel_rfl) (by kernel_rfl) (by kernel_rfl) (fun _ _ _ h => h) (Or.inl ⟨by rfl, ?_⟩) (by assumption) ?_
    rotate_left
    · intro w hSw; (try dsimp only at hSw); go_simp; try (with_reducible rfl)
    try simp only [Act.put, List.setIfInBounds_toArray, List.set_cons_zero, List.set_cons_succ]
    refine wpAnyT_take (i := 16) (v := ?_) (by simp only [List.getElem?_toArray, List.getElem?_cons_zero, List.getElem?_cons_succ]; rfl) (by kernel_rfl) (by kernel_rfl) (by kernel_rfl) (by kernel_rfl) (by kernel_rfl) (fun _ _ _ h => h) (Or.inl ⟨by rfl, ?_⟩) (by assumption) ?_
    rotate_left
    · intro w hSw; (try dsimp only at hSw); go_simp; try (with_reducible rfl)
    try simp only [Act.put, List.setIfInBounds_toArray, List.set_cons_zero, List.set_cons_succ]
    refine wpAnyT_take (i := 17) (v := ?_) (by simp only [List.getElem?_toArray, List.getElem?_cons_zero, List.getElem?_cons_succ]; rfl) (by kernel_rfl) (by kernel_rfl) (by kernel_rfl) (by kernel_rfl) (by kernel_rfl) (fun _ _ _ h => h) (Or.inl ⟨by rfl, ?_⟩) (by assumption) ?_
    rotate_left
    · intro w hSw; (try dsimp only at hSw); go_simp; try (with_reducible rfl)
    try simp only [Act.put, List.setIfInBounds_toArray, List.set_cons_zero, List.set_cons_succ]
    refine wpAnyT_take (i := 18) (v := ?_) (by simp only [List.getElem?_toArray, List.getElem?_cons_zero, List.getElem?_cons_succ]; rfl) (by kernel_rfl) (by kernel_rfl) (by kernel_rfl) (by kernel_rfl) (by kernel_rfl) (fun _ _ _ h => h) (Or.inl ⟨by rfl, ?_⟩) (by assumption) ?_
    rotate_left
    · intro w hSw; (try dsimp only at hSw); go_simp; try (with_reducible rfl)
    try simp only [Act.put, List.setIfInBounds_toArray, List.set_cons_zero, List.set_cons_succ]
    refine wpAnyT_take (i := 19) (v := ?_) (by simp only [List.getElem?_toArray, List.getElem?_cons_zero, List.getElem?_cons_succ]; rfl) (by kernel_rfl) (by kernel_rfl) (by kernel_rfl) (by kernel_rfl) (by kernel_rfl) (fun _ _ _ h => h) (Or.inl ⟨by rfl, ?_⟩) (by assumption) ?_
    rotate_left
    · intro w hSw; (try dsimp only at hSw); go_simp; try (with_reducible rfl)
    try simp only [Act.put, List.setIfInBounds_toArray, List.set_cons_zero, List.set_cons_succ]
    refine wpAnyT_take (i := 20) (v := ?_) (by simp only [List.getElem?_toArray, List.getElem?_cons_zero, List.getElem?_cons_succ]; rfl) (by kernel_rfl) (by kernel_rfl) (by kernel_rfl) (by kernel_rfl) (by kernel_rfl) (fun _ _ _ h => h) (Or.inl ⟨by rfl, ?_⟩) (by assumption) ?_
    rotate_left
    · intro w hSw; (try dsimp only at hSw); go_simp; try (with_reducible rfl)
    try simp only [Act.put, List.setIfInBounds_toArray, List.set_cons_zero, List.set_cons_succ]
    refine wpAnyT_take (i := 21) (v := ?_) (by simp only [List.getElem?_toArray, List.getElem?_cons_zero, List.getElem?_cons_succ]; rfl) (by kernel_rfl) (by kernel_rfl) (by kernel_rfl) (by kernel_rfl) (by kernel_rfl) (fun _ _ _ h => h) (Or.inl ⟨by rfl, ?_⟩) (by assumption) ?_
    rotate_left
    · intro w hSw; (try dsimp only at hSw); go_simp; try (with_reducible rfl)
    try simp only [Act.put, List.setIfInBounds_toArray, List.set_cons_zero, List.set_cons_succ]
    refine wpAnyT_take (i := 22) (v := ?_) (by simp only [List.getElem?_toArray, List.getElem?_cons_zero, List.getElem?_cons_succ]; rfl) (by kernel_rfl) (by kernel_rfl) (by kernel_rfl) (by kernel_rfl) (by kernel_rfl) (fun _ _ _ h => h) (Or.inl ⟨by rfl, ?_⟩) (by assumption) ?_
    rotate_left
    · intro w hSw; (try dsimp only at hSw); go_simp; try (with_reducible rfl)
    try simp only [Act.put, List.setIfInBounds_toArray, List.set_cons_zero, List.set_cons_succ]
    refine wpAnyT_take (i := 23) (v := ?_) (by simp only [List.getElem?_toArray, List.getElem?_cons_zero, List.getElem?_cons_succ]; rfl) (by kernel_rfl) (by kernel_rfl) (by kernel_rfl) (by kernel_rfl) (by kernel_rfl) (fun _ _ _ h => h) (Or.inl ⟨by rfl, ?_⟩) (by assumption) ?_
    rotate_left
    · intro w hSw; (try dsimp only at hSw); go_simp; try (with_reducible rfl)
    try simp only [Act.put, List.setIfInBounds_toArray, List.set_cons_zero, List.set_cons_succ]
    refine wpAnyT_take (i := 24) (v := ?_) (by simp only [List.getElem?_toArray, List.getElem?_cons_zero, List.getElem?_cons_succ]; rfl) (by kernel_rfl) (by kernel_rfl) (by kernel_rfl) (by kernel_rfl) (by kernel_rfl) (fun _ _ _ h => h) (Or.inl ⟨by rfl, ?_⟩) (by assumption) ?_
    rotate_left
    · intro w hSw; (try dsimp only at hSw); go_simp; try (with_reducible rfl)
    try simp only [Act.put, List.setIfInBounds_toArray, List.set_cons_zero, List.set_cons_succ]
    refine wpAnyT_done (by kernel_rfl) ?_ _
    refine NoOut.normal ?_
    gi_wp2
    have hF : Fr (OnB (w2.heap.size + 2)) W (W.setCell ⟨w2.heap.size + 2, 0, none⟩ (.int .i64 ((xi : Int) + 1))).drew := ((Fr.refl _ W).setIn (p := ⟨w2.heap.size + 2, 0, none⟩) (fun _ _ => rfl) _).drew
    have hko := KeepsOthers.setCell W ⟨w2.heap.size + 2, 0, none⟩ (.int .i64 ((xi : Int) + 1))
    refine ⟨⟨hko.1, hko.2⟩, hF.mono (fun k o h => ⟨by have h : k = w2.heap.size + 2 := h; omega, by have h : k = w2.heap.size + 2 := h; omega, by have h : k = w2.heap.size + 2 := h; omega⟩), ?_, Hc.out.2.1.trans hF⟩
    have := Hc.out.1.set_ 0 (.int .i64 ((xi : Int) + 1))
    rw [List.length_append, Hc.out.2.2.2.2]
    exact (by simpa using this : Blk (W.setCell ⟨w2.heap.size + 2, 0, none⟩ (.int .i64 ((xi : Int) + 1))) (w2.heap.size + 2) 3 #[.int .i64 ((xi + 1 : Nat) : Int)])
  case done =>
    rintro D xs W hD hxs ⟨hc, hf⟩ hDo
    have hxs : xs.length = nw + 7 := hxs
    rw [hxs] at hc
    have hDl := lt_of_heap hDo
    have hbW : Below w2.heap.size w2 W := below_new Hr.out.1 hf (by omega) (by omega)
    have hlW : Below w.heap.size w W := H2.out.1.trans (hbW.mono hlw)
    have hrW : Blk W w.heap.size 4 #[.bool false] := H2.out.2.1.below hbW H2.out.2.1.lt
    have hPW := PC.below H2.out.2.2.1 hbW
    have hRW := RC.below H2.out.2.2.2.1 hbW
    have HR := Lib.hid hRW
    obtain ⟨kc2, ra, rb, q0, q1, -, -, q4, q5⟩ := hRW
    have c1 : W.cell? ⟨w2.heap.size + 2, 0, none⟩ = some (.int .i64 (nw + 7 : Nat)) := hc.cell 0
    have c2' : W.cell? ⟨w2.heap.size, 0, none⟩ = some (.pointer (some ⟨g2, 0, none⟩)) := (Hr.out.2.fr hf (fun e => by have e : w2.heap.size = w2.heap.size + 2 := e; omega)).cell 0
    have c3 : W.cell? ⟨g2, 0, none⟩ = some (.slice (some ⟨gk2, 0, none⟩) (nw + 7 : Nat) kc2) := q1.cell 0
    have hRl : w.heap.size < w2.heap.size := H2.out.2.1.lt
    have HD := Lib.hid (And.intro hlW (And.intro hrW (And.intro hPW hDo)))
    have HDl := Lib.hid (And.intro hDl (show w.heap.size < D by omega))
    have hBW := HB.out.2.below hlW
    have h2 := Hm.out.2.1
    by_cases h16 : m2 = 16
    · subst h16
      have hn16 : ((16 : Int) != 16) = false := rfl
      have heq := fun L : List UInt8 => (show ((bstr L).toList == (bstr L).toList) = true by simp)
      have hat : At W A2 16 _ := At.of_bytes hBW (show 16 ≤ n2 by omega)
      have henc := enc_some (w := W.drew) hPW hnw A2 c2 _ hat
      have HW := Lib.hid (And.intro True.intro (And.intro hPW (And.intro HR.out (And.intro hat (And.intro hrW (And.intro hlW hDo))))))
      have hCW := And.intro c1 (And.intro c2' c3)
      clear hc hf hDo hDl hbW hlW hrW hPW q0 q1 q4 q5 hD hxs hat hBW
      gi_upto_region 19 with fail
      refine wpIn_wide.2 ?_
      refine wp_region_noPanic ?_
      refine wp_region_T (fun w' => w'.cell? ⟨w2.heap.size + 2, 0, none⟩ = some (.int .i64 (nw + 7 : Nat)) ∧ w'.cell? ⟨w2.heap.size, 0, none⟩ = some (.pointer (some ⟨g2, 0, none⟩)) ∧ w'.cell? ⟨g2, 0, none⟩ = some (.slice (some ⟨gk2, 0, none⟩) (nw + 7 : Nat) kc2)) [32] (by kernel_rfl) ?_ (fun hHeld => ?_)
      · exact ⟨c1, c2', c3⟩
      refine wpAnyT_take (i := 0) (v := ?_) (by simp only [List.getElem?_toArray, List.getElem?_cons_zero, List.getElem?_cons_succ]; rfl) (by kernel_rfl) (by kernel_rfl) (by kernel_rfl) (by kernel_rfl) (by kernel_rfl) (fun _ _ _ h => h) (Or.inl ⟨by rfl, ?_⟩) (by assumption) ?_
      rotate_left
      · intro w hSw; (try dsimp only at hSw); go_simp; try (with_reducible rfl)
      try simp only [Act.put, List.setIfInBounds_toArray, List.set_cons_zero, List.set_cons_succ]
      refine wpAnyT_take (i := 1) (v := ?_) (by simp only [List.getElem?_toArray, List.getElem?_cons_zero, List.getElem?_cons_succ]; rfl) (by kernel_rfl) (by kernel_rfl) (by kernel_rfl) (by kernel_rfl) (by kernel_rfl) (fun _ _ _ h => h) (Or.inl ⟨by rfl, ?_⟩) (by assumption) ?_
      rotate_left
      · intro w hSw; (try dsimp only at hSw); go_simp; try (with_reducible rfl)
      try simp only [Act.put, List.setIfInBounds_toArray, List.set_cons_zero, List.set_cons_succ]
      refine wpAnyT_take (i := 2) (v := ?_) (by simp only [List.getElem?_toArray, List.getElem?_cons_zero, List.getElem?_cons_succ]; rfl) (by kernel_rfl) (by kernel_rfl) (by kernel_rfl) (by kernel_rfl) (by kernel_rfl) (fun _ _ _ h => h) (Or.inl ⟨by rfl, ?_⟩) (by assumption) ?_
      rotate_left
      · intro w hSw; (try dsimp only at hSw); go_simp; try (with_reducible rfl)
      try simp only [Act.put, List.setIfInBounds_toArray, List.set_cons_zero, List.set_cons_succ]
      refine wpAnyT_take (i := 3) (v := ?_) (by simp only [List.getElem?_toArray, List.getElem?_cons_zero, List.getElem?_cons_succ]; rfl) (by kernel_rfl) (by kernel_rfl) (by kernel_rfl) (by kernel_rfl) (by kernel_rfl) (fun _ _ _ h => h) (Or.inl ⟨by rfl, ?_⟩) (by assumption) ?_
      rotate_left
      · intro w hSw; (try dsimp only at hSw); go_simp; try (with_reducible rfl)
      try simp only [Act.put, List.setIfInBounds_toArray, List.set_cons_zero, List.set_cons_succ]
      refine wpAnyT_take (i := 4) (v := ?_) (by simp only [List.getElem?_toArray, List.getElem?_cons_zero, List.getElem?_cons_succ]; rfl) (by kernel_rfl) (by kernel_rfl) (by kernel_rfl) (by kernel_rfl) (by kernel_rfl) (fun _ _ _ h => h) (Or.inl ⟨by rfl, ?_⟩) (by assumption) ?_
      rotate_left
      · intro w hSw; (try dsimp only at hSw); go_simp; try (with_reducible rfl)
      try simp only [Act.put, List.setIfInBounds_toArray, List.set_cons_zero, List.set_cons_succ]
      refine wpAnyT_take (i := 5) (v := ?_) (by simp only [List.getElem?_toArray, List.getElem?_cons_zero, List.getElem?_cons_succ]; rfl) (by kernel_rfl) (by kernel_rfl) (by kernel_rfl) (by kernel_rfl) (by kernel_rfl) (fun _ _ _ h => h) (Or.inl ⟨by rfl, ?_⟩) (by assumption) ?_
      rotate_left
      · intro w hSw; (try dsimp only at hSw); go_simp; try (with_reducible rfl)
      try simp only [Act.put, List.setIfInBounds_toArray, List.set_cons_zero, List.set_cons_succ]
      refine wpAnyT_take (i := 6) (v := ?_) (by simp only [List.getElem?_toArray, List.getElem?_cons_zero, List.getElem?_cons_succ]; rfl) (by kernel_rfl) (by kernel_rfl) (by kernel_rfl) (by kernel_rfl) (by kernel_rfl) (fun _ _ _ h => h) (Or.inl ⟨by rfl, ?_⟩) (by assumption) ?_
      rotate_left
      · intro w hSw; (try dsimp only at hSw); go_simp; try (with_reducible rfl)
      try simp only [Act.put, List.setIfInBounds_toArray, List.set_cons_zero, List.set_cons_succ]
      refine wpAnyT_take (i := 7) (v := ?_) (by simp only [List.getElem?_toArray, List.getElem?_cons_zero, List.getElem?_cons_succ]; rfl) (by kernel_rfl) (by kernel_rfl) (by kernel_rfl) (by kernel_rfl) (by kernel_rfl) (fun _ _ _ h => h) (Or.inl ⟨by rfl, ?_⟩) (by assumption) ?_
      rotate_left
      · intro w hSw; (try dsimp only at hSw); go_simp; try (with_reducible rfl)
      try simp only [Act.put, List.setIfInBounds_toArray, List.set_cons_zero, List.set_cons_succ]
      refine wpAnyT_take (i := 8) (v := ?_) (by simp only [List.getElem?_toArray, List.getElem?_cons_zero, List.getElem?_cons_succ]; rfl) (by kernel_rfl) (by kernel_rfl) (by kernel_rfl) (by kernel_rfl) (by kernel_rfl) (fun _ _ _ h => h) (Or.inl ⟨by rfl, ?_⟩) (by assumption) ?_
      rotate_left
      · intro w hSw; (try dsimp only at hSw); go_simp; try (with_reducible rfl)
      try simp only [Act.put, List.setIfInBounds_toArray, List.set_cons_zero, List.set_cons_succ]
      refine wpAnyT_take (i := 9) (v := ?_) (by simp only [List.getElem?_toArray, List.getElem?_cons_zero, List.getElem?_cons_succ]; rfl) (by kernel_rfl) (by kernel_rfl) (by kernel_rfl) (by kernel_rfl) (by kernel_rfl) (fun _ _ _ h => h) (Or.inl ⟨by rfl, ?_⟩) (by assumption) ?_
      rotate_left
      · intro w hSw; (try dsimp only at hSw); go_simp; try (with_reducible rfl)
      try simp only [Act.put, List.setIfInBounds_toArray, List.set_cons_zero, List.set_cons_succ]
      refine wpAnyT_take (i := 10) (v := ?_) (by simp only [List.getElem?_toArray, List.getElem?_cons_zero, List.getElem?_cons_succ]; rfl) (by kernel_rfl) (by kernel_rfl) (by kernel_rfl) (by kernel_rfl) (by kernel_rfl) (fun _ _ _ h => h) (Or.inl ⟨by rfl, ?_⟩) (by assumption) ?_
      rotate_left
      · intro w hSw; (try dsimp only at hSw); go_simp; try (with_reducible rfl)
      try simp only [Act.put, List.setIfInBounds_toArray, List.set_cons_zero, List.set_cons_succ]
      refine wpAnyT_take (i := 11) (v := ?_) (by simp only [List.getElem?_toArray, List.getElem?_cons_zero, List.getElem?_cons_succ]; rfl) (by kernel_rfl) (by kernel_rfl) (by kernel_rfl) (by kernel_rfl) (by kernel_rfl) (fun _ _ _ h => h) (Or.inl ⟨by rfl, ?_⟩) (by assumption) ?_
      rotate_left
      · intro w hSw; (try dsimp only at hSw); go_simp; try (with_reducible rfl)
      try simp only [Act.put, List.setIfInBounds_toArray, List.set_cons_zero, List.set_cons_succ]
      refine wpAnyT_take (i := 12) (v := ?_) (by simp only [List.getElem?_toArray, List.getElem?_cons_zero, List.getElem?_cons_succ]; rfl) (by kernel_rfl) (by kernel_rfl) (by kernel_rfl) (by kernel_rfl) (by kernel_rfl) (fun _ _ _ h => h) (Or.inl ⟨by rfl, ?_⟩) (by assumption) ?_
      rotate_left
      · intro w hSw; (try dsimp only at hSw); go_simp; try (with_reducible rfl)
      try simp only [Act.put, List.setIfInBounds_toArray, List.set_cons_zero, List.set_cons_succ]
      refine wpAnyT_take (i := 15) (v := ?_) (by simp only [List.getElem?_toArray, List.getElem?_cons_zero, List.getElem?_cons_succ]; rfl) (by kernel_rfl) (by kernel_rfl) (by kernel_rfl) (by kernel_rfl) (by kernel_rfl) (fun _ _ _ h => h) (Or.inl ⟨by rfl, ?_⟩) (by assumption) ?_
      rotate_left
      · intro w hSw; (try dsimp only at hSw); go_simp; try (with_reducible rfl)
      try simp only [Act.put, List.setIfInBounds_toArray, List.set_cons_zero, List.set_cons_succ]
      refine wpAnyT_take (i := 16) (v := ?_) (by simp only [List.getElem?_toArray, List.getElem?_cons_zero, List.getElem?_cons_succ]; rfl) (by kernel_rfl) (by kernel_rfl) (by kernel_rfl) (by kernel_rfl) (by kernel_rfl) (fun _ _ _ h => h) (Or.inl ⟨by rfl, ?_⟩) (by assumption) ?_
      rotate_left
      · intro w hSw; (try dsimp only at hSw); go_simp; try (with_reducible rfl)
      try simp only [Act.put, List.setIfInBounds_toArray, List.set_cons_zero, List.set_cons_succ]
      refine wpAnyT_ready (rs := [13]) (by kernel_rfl) (by simp) (AllReadyT.cons (by simp only [List.getElem?_toArray, List.getElem?_cons_zero, List.getElem?_cons_succ]; rfl) (fun K hK => ?_) AllReadyT.nil)
      go_simp
      go_at_call 18
      refine henc.mono ?_
      rintro e w13 ⟨g13, rfl, hg13, hs13, hb13⟩
      have hb13 : Below W.heap.size W w13 := ⟨hb13.os, hb13.tape, hb13.output, hb13.size, hb13.block⟩
      have hC13 := And.intro ((hb13.cell (World.block_lt_of_cell? _ _ hCW.1)).trans hCW.1) (And.intro ((hb13.cell (World.block_lt_of_cell? _ _ hCW.2.1)).trans hCW.2.1) ((hb13.cell (World.block_lt_of_cell? _ _ hCW.2.2)).trans hCW.2.2))
      have hcE13 := conv_str (c := 16) (brow_bytes (hs13)) (fun e => by rw [tab_length] at e; omega)
      rw [tab_length] at hcE13
      have H13 := Lib.hid (And.intro (hs13) (And.intro (PC.below HW.out.2.1 hb13) (And.intro (RC.below HW.out.2.2.1 hb13) (And.intro (HW.out.2.2.2.1.below hb13) (And.intro (HW.out.2.2.2.2.1.below hb13 HW.out.2.2.2.2.1.lt) (And.intro (HW.out.2.2.2.2.2.1.trans (hb13.mono HW.out.2.2.2.2.2.1.size)) ((hb13.block D (lt_of_heap HW.out.2.2.2.2.2.2)).trans HW.out.2.2.2.2.2.2)))))))
      have hren := renc_any H13.out.2.2.1 hnw A2 c2 _ H13.out.2.2.2.1
      clear hs13
      refine hK.out _ _ ?_ (fun hHeld => ?_)
      · exact hC13
      clear hK K
      try simp only [Act.put, List.setIfInBounds_toArray, List.set_cons_zero, List.set_cons_succ]
      refine wpAnyT_ready (rs := [14, 17]) (by kernel_rfl) (by simp) (AllReadyT.cons (by simp only [List.getElem?_toArray, List.getElem?_cons_zero, List.getElem?_cons_succ]; rfl) (fun K hK => ?_) (AllReadyT.cons (by simp only [List.getElem?_toArray, List.getElem?_cons_zero, List.getElem?_cons_succ]; rfl) (fun K hK => ?_) AllReadyT.nil))
      · skip
        go_simp
        refine hK.out _ _ ?_ (fun hHeld => ?_)
        · exact hHeld
        clear hK K
        try simp only [Act.put, List.setIfInBounds_toArray, List.set_cons_zero, List.set_cons_succ]
        refine wpAnyT_ready (rs := [17]) (by kernel_rfl) (by simp) (AllReadyT.cons (by simp only [List.getElem?_toArray, List.getElem?_cons_zero, List.getElem?_cons_succ]; rfl) (fun K hK => ?_) AllReadyT.nil)
        go_simp
        go_at_call 21
        refine hren.mono ?_
        rintro e w17 ⟨g17, rfl, hg17, hs17, hb17⟩
        have hC17 := And.intro ((hb17.cell (World.block_lt_of_cell? _ _ hC13.1)).trans hC13.1) (And.intro ((hb17.cell (World.block_lt_of_cell? _ _ hC13.2.1)).trans hC13.2.1) ((hb17.cell (World.block_lt_of_cell? _ _ hC13.2.2)).trans hC13.2.2))
        have hcE17 := conv_str (c := 16) (brow_bytes (H13.out.1.below hb17 H13.out.1.lt)) (fun e => by rw [tab_length] at e; omega)
        rw [tab_length] at hcE17
        have hcR17 := conv_str (c := 16) (brow_bytes (hs17)) (fun e => by rw [tab_length] at e; omega)
        rw [tab_length] at hcR17
        have H17 := Lib.hid (And.intro (True.intro) (And.intro (PC.below H13.out.2.1 hb17) (And.intro (RC.below H13.out.2.2.1 hb17) (And.intro (H13.out.2.2.2.1.below hb17) (And.intro (H13.out.2.2.2.2.1.below hb17 H13.out.2.2.2.2.1.lt) (And.intro (H13.out.2.2.2.2.2.1.trans (hb17.mono H13.out.2.2.2.2.2.1.size)) ((hb17.block D (lt_of_heap H13.out.2.2.2.2.2.2)).trans H13.out.2.2.2.2.2.2)))))))
        have hdec := dec_some H17.out.2.1 hnw A2 c2 _ H17.out.2.2.2.1
        clear hs17
        refine hK.out _ _ ?_ (fun hHeld => ?_)
        · exact hC17
        clear hK K
        try simp only [Act.put, List.setIfInBounds_toArray, List.set_cons_zero, List.set_cons_succ]
        refine wpAnyT_ready (rs := [18]) (by kernel_rfl) (by simp) (AllReadyT.cons (by simp only [List.getElem?_toArray, List.getElem?_cons_zero, List.getElem?_cons_succ]; rfl) (fun K hK => ?_) AllReadyT.nil)
        go_simp
        refine hK.out _ _ ?_ (fun hHeld => ?_)
        · exact hHeld
        clear hK K
        try simp only [Act.put, List.setIfInBounds_toArray, List.set_cons_zero, List.set_cons_succ]
        refine wpAnyT_take (i := 19) (v := ?_) (by simp only [List.getElem?_toArray, List.getElem?_cons_zero, List.getElem?_cons_succ]; rfl) (by kernel_rfl) (by kernel_rfl) (by kernel_rfl) (by kernel_rfl) (by kernel_rfl) (fun _ _ _ h => h) (Or.inl ⟨by rfl, ?_⟩) (by assumption) ?_
        rotate_left
        · intro w hSw; (try dsimp only at hSw); go_simp; try (with_reducible rfl)
        try simp only [Act.put, List.setIfInBounds_toArray, List.set_cons_zero, List.set_cons_succ]
        refine wpAnyT_take (i := 20) (v := ?_) (by simp only [List.getElem?_toArray, List.getElem?_cons_zero, List.getElem?_cons_succ]; rfl) (by kernel_rfl) (by kernel_rfl) (by kernel_rfl) (by kernel_rfl) (by kernel_rfl) (fun _ _ _ h => h) (Or.inl ⟨by rfl, ?_⟩) (by assumption) ?_
        rotate_left
        · intro w hSw; (try dsimp only at hSw); go_simp; try (with_reducible rfl)
        try simp only [Act.put, List.setIfInBounds_toArray, List.set_cons_zero, List.set_cons_succ]
        refine wpAnyT_take (i := 21) (v := ?_) (by simp only [List.getElem?_toArray, List.getElem?_cons_zero, List.getElem?_cons_succ]; rfl) (by kernel_rfl) (by kernel_rfl) (by kernel_rfl) (by kernel_rfl) (by kernel_rfl) (fun _ _ _ h => h) (Or.inl ⟨by rfl, ?_⟩) (by assumption) ?_
        rotate_left
        · intro w hSw; (try dsimp only at hSw); go_simp; try (with_reducible rfl)
        try simp only [Act.put, List.setIfInBounds_toArray, List.set_cons_zero, List.set_cons_succ]
        refine wpAnyT_take (i := 22) (v := ?_) (by simp only [List.getElem?_toArray, List.getElem?_cons_zero, List.getElem?_cons_succ]; rfl) (by kernel_rfl) (by kernel_rfl) (by kernel_rfl) (by kernel_rfl) (by kernel_rfl) (fun _ _ _ h => h) (Or.inl ⟨by rfl, ?_⟩) (by assumption) ?_
        rotate_left
        · intro w hSw; (try dsimp only at hSw); go_simp; try (with_reducible rfl)
        try simp only [Act.put, List.setIfInBounds_toArray, List.set_cons_zero, List.set_cons_succ]
        refine wpAnyT_take (i := 23) (v := ?_) (by simp only [List.getElem?_toArray, List.getElem?_cons_zero, List.getElem?_cons_succ]; rfl) (by kernel_rfl) (by kernel_rfl) (by kernel_rfl) (by kernel_rfl) (by kernel_rfl) (fun _ _ _ h => h) (Or.inl ⟨by rfl, ?_⟩) (by assumption) ?_
        rotate_left
        · intro w hSw; (try dsimp only at hSw); go_simp; try (with_reducible rfl)
        try simp only [Act.put, List.setIfInBounds_toArray, List.set_cons_zero, List.set_cons_succ]
        refine wpAnyT_take (i := 26) (v := ?_) (by simp only [List.getElem?_toArray, List.getElem?_cons_zero, List.getElem?_cons_succ]; rfl) (by kernel_rfl) (by kernel_rfl) (by kernel_rfl) (by kernel_rfl) (by kernel_rfl) (fun _ _ _ h => h) (Or.inl ⟨by rfl, ?_⟩) (by assumption) ?_
        rotate_left
        · intro w hSw; (try dsimp only at hSw); go_simp; try (with_reducible rfl)
        try simp only [Act.put, List.setIfInBounds_toArray, List.set_cons_zero, List.set_cons_succ]
        refine wpAnyT_take (i := 27) (v := ?_) (by simp only [List.getElem?_toArray, List.getElem?_cons_zero, List.getElem?_cons_succ]; rfl) (by kernel_rfl) (by kernel_rfl) (by kernel_rfl) (by kernel_rfl) (by kernel_rfl) (fun _ _ _ h => h) (Or.inl ⟨by rfl, ?_⟩) (by assumption) ?_
        rotate_left
        · intro w hSw; (try dsimp only at hSw); go_simp; try (with_reducible rfl)
        try simp only [Act.put, List.setIfInBounds_toArray, List.set_cons_zero, List.set_cons_succ]
        refine wpAnyT_ready (rs := [24]) (by kernel_rfl) (by simp) (AllReadyT.cons (by simp only [List.getElem?_toArray, List.getElem?_cons_zero, List.getElem?_cons_succ]; rfl) (fun K hK => ?_) AllReadyT.nil)
        go_simp
        go_at_call 19
        refine hdec.mono ?_
        rintro e w24 ⟨g24, rfl, hg24, hs24, hb24⟩
        have hC24 := And.intro ((hb24.cell (World.block_lt_of_cell? _ _ hC17.1)).trans hC17.1) (And.intro ((hb24.cell (World.block_lt_of_cell? _ _ hC17.2.1)).trans hC17.2.1) ((hb24.cell (World.block_lt_of_cell? _ _ hC17.2.2)).trans hC17.2.2))
        have hcD24 := conv_str (c := 16) (brow_bytes (hs24)) (fun e => by rw [tab_length] at e; omega)
        rw [tab_length] at hcD24
        have H24 := Lib.hid (And.intro (hs24) (And.intro (PC.below H17.out.2.1 hb24) (And.intro (RC.below H17.out.2.2.1 hb24) (And.intro (H17.out.2.2.2.1.below hb24) (And.intro (H17.out.2.2.2.2.1.below hb24 H17.out.2.2.2.2.1.lt) (And.intro (H17.out.2.2.2.2.2.1.trans (hb24.mono H17.out.2.2.2.2.2.1.size)) ((hb24.block D (lt_of_heap H17.out.2.2.2.2.2.2)).trans H17.out.2.2.2.2.2.2)))))))
        have hrdec := rdec_any H24.out.2.2.1 hnw A2 c2 _ H24.out.2.2.2.1
        clear hs24
        refine hK.out _ _ ?_ (fun hHeld => ?_)
        · exact hC24
        clear hK K
        try simp only [Act.put, List.setIfInBounds_toArray, List.set_cons_zero, List.set_cons_succ]
        refine wpAnyT_ready (rs := [25, 28]) (by kernel_rfl) (by simp) (AllReadyT.cons (by simp only [List.getElem?_toArray, List.getElem?_cons_zero, List.getElem?_cons_succ]; rfl) (fun K hK => ?_) (AllReadyT.cons (by simp only [List.getElem?_toArray, List.getElem?_cons_zero, List.getElem?_cons_succ]; rfl) (fun K hK => ?_) AllReadyT.nil))
        · skip
          go_simp
          refine hK.out _ _ ?_ (fun hHeld => ?_)
          · exact hHeld
          clear hK K
          try simp only [Act.put, List.setIfInBounds_toArray, List.set_cons_zero, List.set_cons_succ]
          refine wpAnyT_ready (rs := [28]) (by kernel_rfl) (by simp) (AllReadyT.cons (by simp only [List.getElem?_toArray, List.getElem?_cons_zero, List.getElem?_cons_succ]; rfl) (fun K hK => ?_) AllReadyT.nil)
          go_simp
          go_at_call 22
          refine hrdec.mono ?_
          rintro e w28 ⟨g28, rfl, hg28, hs28, hb28⟩
          have hC28 := And.intro ((hb28.cell (World.block_lt_of_cell? _ _ hC24.1)).trans hC24.1) (And.intro ((hb28.cell (World.block_lt_of_cell? _ _ hC24.2.1)).trans hC24.2.1) ((hb28.cell (World.block_lt_of_cell? _ _ hC24.2.2)).trans hC24.2.2))
          have hcD28 := conv_str (c := 16) (brow_bytes (H24.out.1.below hb28 H24.out.1.lt)) (fun e => by rw [tab_length] at e; omega)
          rw [tab_length] at hcD28
          have hcR28 := conv_str (c := 16) (brow_bytes (hs28)) (fun e => by rw [tab_length] at e; omega)
          rw [tab_length] at hcR28
          have H28 := Lib.hid (And.intro (True.intro) (And.intro (PC.below H24.out.2.1 hb28) (And.intro (RC.below H24.out.2.2.1 hb28) (And.intro (H24.out.2.2.2.1.below hb28) (And.intro (H24.out.2.2.2.2.1.below hb28 H24.out.2.2.2.2.1.lt) (And.intro (H24.out.2.2.2.2.2.1.trans (hb28.mono H24.out.2.2.2.2.2.1.size)) ((hb28.block D (lt_of_heap H24.out.2.2.2.2.2.2)).trans H24.out.2.2.2.2.2.2)))))))
          have cr := H28.out.2.2.2.2.1.cell 0
          simp only [List.getElem?_toArray, List.getElem?_cons_zero] at cr
          have fr := H28.out.2.2.2.2.1.frozen 0
          clear hs28
          refine hK.out _ _ ?_ (fun hHeld => ?_)
          · exact hC28
          clear hK K
          try simp only [Act.put, List.setIfInBounds_toArray, List.set_cons_zero, List.set_cons_succ]
          refine wpAnyT_ready (rs := [29]) (by kernel_rfl) (by simp) (AllReadyT.cons (by simp only [List.getElem?_toArray, List.getElem?_cons_zero, List.getElem?_cons_succ]; rfl) (fun K hK => ?_) AllReadyT.nil)
          go_simp
          refine hK.out _ _ ?_ (fun hHeld => ?_)
          · exact hHeld
          clear hK K
          try simp only [Act.put, List.setIfInBounds_toArray, List.set_cons_zero, List.set_cons_succ]
          refine wpAnyT_take (i := 30) (v := ?_) (by simp only [List.getElem?_toArray, List.getElem?_cons_zero, List.getElem?_cons_succ]; rfl) (by kernel_rfl) (by kernel_rfl) (by kernel_rfl) (by kernel_rfl) (by kernel_rfl) (fun _ _ _ h => h) (Or.inl ⟨by rfl, ?_⟩) (by assumption) ?_
          rotate_left
          · intro w hSw; (try dsimp only at hSw); go_simp; try (with_reducible rfl)
          try simp only [Act.put, List.setIfInBounds_toArray, List.set_cons_zero, List.set_cons_succ]
          refine wpAnyT_take (i := 31) (v := ?_) (by simp only [List.getElem?_toArray, List.getElem?_cons_zero, List.getElem?_cons_succ]; rfl) (by kernel_rfl) (by kernel_rfl) (by kernel_rfl) (by kernel_rfl) (by kernel_rfl) (fun _ _ _ h => h) (Or.inl ⟨by rfl, ?_⟩) (by assumption) ?_
          rotate_left
          · intro w hSw; (try dsimp only at hSw); go_simp; try (with_reducible rfl)
          try simp only [Act.put, List.setIfInBounds_toArray, List.set_cons_zero, List.set_cons_succ]
          refine wpAnyT_ready (rs := [32]) (by kernel_rfl) (by simp) (AllReadyT.store (by simp only [List.getElem?_toArray, List.getElem?_cons_zero, List.getElem?_cons_succ]; rfl) (by simp) (fun K hK => ?_) AllReadyT.nil)
          go_simp
          refine hK.out _ _ ?_
          clear hK K
          try simp only [Act.put, List.setIfInBounds_toArray, List.set_cons_zero, List.set_cons_succ]
          refine wpAnyT_done (by kernel_rfl) ?_ _
          refine NoPanic.normal ?_
          gi_wp2
          have hDf : (w28.setCell ⟨w.heap.size, 0, none⟩ (.bool true)).heap[D]? = some (.deferred (some [])) := (Below.heap_setCell w28 ⟨w.heap.size, 0, none⟩ (.bool true) D (by have := HDl.out.2; show D ≠ w.heap.size; omega)).trans H28.out.2.2.2.2.2.2
          refine ⟨by simp, .inl ⟨_, _, rfl, run_takeDeferred hDf, ?_⟩⟩
          have hrf := (H28.out.2.2.2.2.1.set_ 0 (.bool true)).kc (kc_put (o' := .deferred none) hDf rfl)
          have crf := hrf.cell 0
          simp only [List.setIfInBounds_toArray, List.set_cons_zero, List.getElem?_toArray, List.getElem?_cons_zero] at crf
          refine ⟨.bool true, ?_, rfl, ?_⟩
          · simp [results, Try.results3, go_sem, crf]
          · exact (H28.out.2.2.2.2.2.1.setCell (p := ⟨w.heap.size, 0, none⟩) (Nat.le_refl _) _).trans (belowK_b (w := w) (Nat.le_refl _) _ D _ _ (by have := HDl.out.2; omega) hDf rfl rfl)
        · skip
          go_simp
          go_at_call 22
          refine hrdec.mono ?_
          rintro e w28 ⟨g28, rfl, hg28, hs28, hb28⟩
          have hC28 := And.intro ((hb28.cell (World.block_lt_of_cell? _ _ hC24.1)).trans hC24.1) (And.intro ((hb28.cell (World.block_lt_of_cell? _ _ hC24.2.1)).trans hC24.2.1) ((hb28.cell (World.block_lt_of_cell? _ _ hC24.2.2)).trans hC24.2.2))
          have hcD28 := conv_str (c := 16) (brow_bytes (H24.out.1.below hb28 H24.out.1.lt)) (fun e => by rw [tab_length] at e; omega)
          rw [tab_length] at hcD28
          have hcR28 := conv_str (c := 16) (brow_bytes (hs28)) (fun e => by rw [tab_length] at e; omega)
          rw [tab_length] at hcR28
          have H28 := Lib.hid (And.intro (True.intro) (And.intro (PC.below H24.out.2.1 hb28) (And.intro (RC.below H24.out.2.2.1 hb28) (And.intro (H24.out.2.2.2.1.below hb28) (And.intro (H24.out.2.2.2.2.1.below hb28 H24.out.2.2.2.2.1.lt) (And.intro (H24.out.2.2.2.2.2.1.trans (hb28.mono H24.out.2.2.2.2.2.1.size)) ((hb28.block D (lt_of_heap H24.out.2.2.2.2.2.2)).trans H24.out.2.2.2.2.2.2)))))))
          have cr := H28.out.2.2.2.2.1.cell 0
          simp only [List.getElem?_toArray, List.getElem?_cons_zero] at cr
          have fr := H28.out.2.2.2.2.1.frozen 0
          clear hs28
          refine hK.out _ _ ?_ (fun hHeld => ?_)
          · exact hC28
          clear hK K
          try simp only [Act.put, List.setIfInBounds_toArray, List.set_cons_zero, List.set_cons_succ]
          refine wpAnyT_ready (rs := [25, 29]) (by kernel_rfl) (by simp) (AllReadyT.cons (by simp only [List.getElem?_toArray, List.getElem?_cons_zero, List.getElem?_cons_succ]; rfl) (fun K hK => ?_) (AllReadyT.cons (by simp only [List.getElem?_toArray, List.getElem?_cons_zero, List.getElem?_cons_succ]; rfl) (fun K hK => ?_) AllReadyT.nil))
          · skip
            go_simp
            refine hK.out _ _ ?_ (fun hHeld => ?_)
            · exact hHeld
            clear hK K
            try simp only [Act.put, List.setIfInBounds_toArray, List.set_cons_zero, List.set_cons_succ]
            refine wpAnyT_ready (rs := [29]) (by kernel_rfl) (by simp) (AllReadyT.cons (by simp only [List.getElem?_toArray, List.getElem?_cons_zero, List.getElem?_cons_succ]; rfl) (fun K hK => ?_) AllReadyT.nil)
            go_simp
            refine hK.out _ _ ?_ (fun hHeld => ?_)
            · exact hHeld
            clear hK K
            try simp only [Act.put, List.setIfInBounds_toArray, List.set_cons_zero, List.set_cons_succ]
            refine wpAnyT_take (i := 30) (v := ?_) (by simp only [List.getElem?_toArray, List.getElem?_cons_zero, List.getElem?_cons_succ]; rfl) (by kernel_rfl) (by kernel_rfl) (by kernel_rfl) (by kernel_rfl) (by kernel_rfl) (fun _ _ _ h => h) (Or.inl ⟨by rfl, ?_⟩) (by assumption) ?_
            rotate_left
            · intro w hSw; (try dsimp only at hSw); go_simp; try (with_reducible rfl)
            try simp only [Act.put, List.setIfInBounds_toArray, List.set_cons_zero, List.set_cons_succ]
            refine wpAnyT_take (i := 31) (v := ?_) (by simp only [List.getElem?_toArray, List.getElem?_cons_zero, List.getElem?_cons_succ]; rfl) (by kernel_rfl) (by kernel_rfl) (by kernel_rfl) (by kernel_rfl) (by kernel_rfl) (fun _ _ _ h => h) (Or.inl ⟨by rfl, ?_⟩) (by assumption) ?_
            rotate_left
            · intro w hSw; (try dsimp only at hSw); go_simp; try (with_reducible rfl)
            try simp only [Act.put, List.setIfInBounds_toArray, List.set_cons_zero, List.set_cons_succ]
            refine wpAnyT_ready (rs := [32]) (by kernel_rfl) (by simp) (AllReadyT.store (by simp only [List.getElem?_toArray, List.getElem?_cons_zero, List.getElem?_cons_succ]; rfl) (by simp) (fun K hK => ?_) AllReadyT.nil)
            go_simp
            refine hK.out _ _ ?_
            clear hK K
            try simp only [Act.put, List.setIfInBounds_toArray, List.set_cons_zero, List.set_cons_succ]
            refine wpAnyT_done (by kernel_rfl) ?_ _
            refine NoPanic.normal ?_
            gi_wp2
            have hDf : (w28.setCell ⟨w.heap.size, 0, none⟩ (.bool true)).heap[D]? = some (.deferred (some [])) := (Below.heap_setCell w28 ⟨w.heap.size, 0, none⟩ (.bool true) D (by have := HDl.out.2; show D ≠ w.heap.size; omega)).trans H28.out.2.2.2.2.2.2
            refine ⟨by simp, .inl ⟨_, _, rfl, run_takeDeferred hDf, ?_⟩⟩
            have hrf := (H28.out.2.2.2.2.1.set_ 0 (.bool true)).kc (kc_put (o' := .deferred none) hDf rfl)
            have crf := hrf.cell 0
            simp only [List.setIfInBounds_toArray, List.set_cons_zero, List.getElem?_toArray, List.getElem?_cons_zero] at crf
            refine ⟨.bool true, ?_, rfl, ?_⟩
            · simp [results, Try.results3, go_sem, crf]
            · exact (H28.out.2.2.2.2.2.1.setCell (p := ⟨w.heap.size, 0, none⟩) (Nat.le_refl _) _).trans (belowK_b (w := w) (Nat.le_refl _) _ D _ _ (by have := HDl.out.2; omega) hDf rfl rfl)
          · skip
            go_simp
            refine hK.out _ _ ?_ (fun hHeld => ?_)
            · exact hHeld
            clear hK K
            try simp only [Act.put, List.setIfInBounds_toArray, List.set_cons_zero, List.set_cons_succ]
            refine wpAnyT_ready (rs := [25]) (by kernel_rfl) (by simp) (AllReadyT.cons (by simp only [List.getElem?_toArray, List.getElem?_cons_zero, List.getElem?_cons_succ]; rfl) (fun K hK => ?_) AllReadyT.nil)
            go_simp
            refine hK.out _ _ ?_ (fun hHeld => ?_)
            · exact hHeld
            clear hK K
            try simp only [Act.put, List.setIfInBounds_toArray, List.set_cons_zero, List.set_cons_succ]
            refine wpAnyT_take (i := 30) (v := ?_) (by simp only [List.getElem?_toArray, List.getElem?_cons_zero, List.getElem?_cons_succ]; rfl) (by kernel_rfl) (by kernel_rfl) (by kernel_rfl) (by kernel_rfl) (by kernel_rfl) (fun _ _ _ h => h) (Or.inl ⟨by rfl, ?_⟩) (by assumption) ?_
            rotate_left
            · intro w hSw; (try dsimp only at hSw); go_simp; try (with_reducible rfl)
            try simp only [Act.put, List.setIfInBounds_toArray, List.set_cons_zero, List.set_cons_succ]
            refine wpAnyT_take (i := 31) (v := ?_) (by simp only [List.getElem?_toArray, List.getElem?_cons_zero, List.getElem?_cons_succ]; rfl) (by kernel_rfl) (by kernel_rfl) (by kernel_rfl) (by kernel_rfl) (by kernel_rfl) (fun _ _ _ h => h) (Or.inl ⟨by rfl, ?_⟩) (by assumption) ?_
            rotate_left
            · intro w hSw; (try dsimp only at hSw); go_simp; try (with_reducible rfl)
            try simp only [Act.put, List.setIfInBounds_toArray, List.set_cons_zero, List.set_cons_succ]
            refine wpAnyT_ready (rs := [32]) (by kernel_rfl) (by simp) (AllReadyT.store (by simp only [List.getElem?_toArray, List.getElem?_cons_zero, List.getElem?_cons_succ]; rfl) (by simp) (fun K hK => ?_) AllReadyT.nil)
            go_simp
            refine hK.out _ _ ?_
            clear hK K
            try simp only [Act.put, List.setIfInBounds_toArray, List.set_cons_zero, List.set_cons_succ]
            refine wpAnyT_done (by kernel_rfl) ?_ _
            refine NoPanic.normal ?_
            gi_wp2
            have hDf : (w28.setCell ⟨w.heap.size, 0, none⟩ (.bool true)).heap[D]? = some (.deferred (some [])) := (Below.heap_setCell w28 ⟨w.heap.size, 0, none⟩ (.bool true) D (by have := HDl.out.2; show D ≠ w.heap.size; omega)).trans H28.out.2.2.2.2.2.2
            refine ⟨by simp, .inl ⟨_, _, rfl, run_takeDeferred hDf, ?_⟩⟩
            have hrf := (H28.out.2.2.2.2.1.set_ 0 (.bool true)).kc (kc_put (o' := .deferred none) hDf rfl)
            have crf := hrf.cell 0
            simp only [List.setIfInBounds_toArray, List.set_cons_zero, List.getElem?_toArray, List.getElem?_cons_zero] at crf
            refine ⟨.bool true, ?_, rfl, ?_⟩
            · simp [results, Try.results3, go_sem, crf]
            · exact (H28.out.2.2.2.2.2.1.setCell (p := ⟨w.heap.size, 0, none⟩) (Nat.le_refl _) _).trans (belowK_b (w := w) (Nat.le_refl _) _ D _ _ (by have := HDl.out.2; omega) hDf rfl rfl)
      · skip
        go_simp
        go_at_call 21
        refine hren.mono ?_
        rintro e w17 ⟨g17, rfl, hg17, hs17, hb17⟩
        have hC17 := And.intro ((hb17.cell (World.block_lt_of_cell? _ _ hC13.1)).trans hC13.1) (And.intro ((hb17.cell (World.block_lt_of_cell? _ _ hC13.2.1)).trans hC13.2.1) ((hb17.cell (World.block_lt_of_cell? _ _ hC13.2.2)).trans hC13.2.2))
        have hcE17 := conv_str (c := 16) (brow_bytes (H13.out.1.below hb17 H13.out.1.lt)) (fun e => by rw [tab_length] at e; omega)
        rw [tab_length] at hcE17
        have hcR17 := conv_str (c := 16) (brow_bytes (hs17)) (fun e => by rw [tab_length] at e; omega)
        rw [tab_length] at hcR17
        have H17 := Lib.hid (And.intro (True.intro) (And.intro (PC.below H13.out.2.1 hb17) (And.intro (RC.below H13.out.2.2.1 hb17) (And.intro (H13.out.2.2.2.1.below hb17) (And.intro (H13.out.2.2.2.2.1.below hb17 H13.out.2.2.2.2.1.lt) (And.intro (H13.out.2.2.2.2.2.1.trans (hb17.mono H13.out.2.2.2.2.2.1.size)) ((hb17.block D (lt_of_heap H13.out.2.2.2.2.2.2)).trans H13.out.2.2.2.2.2.2)))))))
        have hdec := dec_some H17.out.2.1 hnw A2 c2 _ H17.out.2.2.2.1
        clear hs17
        refine hK.out _ _ ?_ (fun hHeld => ?_)
        · exact hC17
        clear hK K
        try simp only [Act.put, List.setIfInBounds_toArray, List.set_cons_zero, List.set_cons_succ]
        refine wpAnyT_ready (rs := [14, 18]) (by kernel_rfl) (by simp) (AllReadyT.cons (by simp only [List.getElem?_toArray, List.getElem?_cons_zero, List.getElem?_cons_succ]; rfl) (fun K hK => ?_) (AllReadyT.cons (by simp only [List.getElem?_toArray, List.getElem?_cons_zero, List.getElem?_cons_succ]; rfl) (fun K hK => ?_) AllReadyT.nil))
        · skip
          go_simp
          refine hK.out _ _ ?_ (fun hHeld => ?_)
          · exact hHeld
          clear hK K
          try simp only [Act.put, List.setIfInBounds_toArray, List.set_cons_zero, List.set_cons_succ]
          refine wpAnyT_ready (rs := [18]) (by kernel_rfl) (by simp) (AllReadyT.cons (by simp only [List.getElem?_toArray, List.getElem?_cons_zero, List.getElem?_cons_succ]; rfl) (fun K hK => ?_) AllReadyT.nil)
          go_simp
          refine hK.out _ _ ?_ (fun hHeld => ?_)
          · exact hHeld
          clear hK K
          try simp only [Act.put, List.setIfInBounds_toArray, List.set_cons_zero, List.set_cons_succ]
          refine wpAnyT_take (i := 19) (v := ?_) (by simp only [List.getElem?_toArray, List.getElem?_cons_zero, List.getElem?_cons_succ]; rfl) (by kernel_rfl) (by kernel_rfl) (by kernel_rfl) (by kernel_rfl) (by kernel_rfl) (fun _ _ _ h => h) (Or.inl ⟨by rfl, ?_⟩) (by assumption) ?_
          rotate_left
          · intro w hSw; (try dsimp only at hSw); go_simp; try (with_reducible rfl)
          try simp only [Act.put, List.setIfInBounds_toArray, List.set_cons_zero, List.set_cons_succ]
          refine wpAnyT_take (i := 20) (v := ?_) (by simp only [List.getElem?_toArray, List.getElem?_cons_zero, List.getElem?_cons_succ]; rfl) (by kernel_rfl) (by kernel_rfl) (by kernel_rfl) (by kernel_rfl) (by kernel_rfl) (fun _ _ _ h => h) (Or.inl ⟨by rfl, ?_⟩) (by assumption) ?_
          rotate_left
          · intro w hSw; (try dsimp only at hSw); go_simp; try (with_reducible rfl)
          try simp only [Act.put, List.setIfInBounds_toArray, List.set_cons_zero, List.set_cons_succ]
          refine wpAnyT_take (i := 21) (v := ?_) (by simp only [List.getElem?_toArray, List.getElem?_cons_zero, List.getElem?_cons_succ]; rfl) (by kernel_rfl) (by kernel_rfl) (by kernel_rfl) (by kernel_rfl) (by kernel_rfl) (fun _ _ _ h => h) (Or.inl ⟨by rfl, ?_⟩) (by assumption) ?_
          rotate_left
          · intro w hSw; (try dsimp only at hSw); go_simp; try (with_reducible rfl)
          try simp only [Act.put, List.setIfInBounds_toArray, List.set_cons_zero, List.set_cons_succ]
          refine wpAnyT_take (i := 22) (v := ?_) (by simp only [List.getElem?_toArray, List.getElem?_cons_zero, List.getElem?_cons_succ]; rfl) (by kernel_rfl) (by kernel_rfl) (by kernel_rfl) (by kernel_rfl) (by kernel_rfl) (fun _ _ _ h => h) (Or.inl ⟨by rfl, ?_⟩) (by assumption) ?_
          rotate_left
          · intro w hSw; (try dsimp only at hSw); go_simp; try (with_reducible rfl)
          try simp only [Act.put, List.setIfInBounds_toArray, List.set_cons_zero, List.set_cons_succ]
          refine wpAnyT_take (i := 23) (v := ?_) (by simp only [List.getElem?_toArray, List.getElem?_cons_zero, List.getElem?_cons_succ]; rfl) (by kernel_rfl) (by kernel_rfl) (by kernel_rfl) (by kernel_rfl) (by kernel_rfl) (fun _ _ _ h => h) (Or.inl ⟨by rfl, ?_⟩) (by assumption) ?_
          rotate_left
          · intro w hSw; (try dsimp only at hSw); go_simp; try (with_reducible rfl)
          try simp only [Act.put, List.setIfInBounds_toArray, List.set_cons_zero, List.set_cons_succ]
          refine wpAnyT_take (i := 26) (v := ?_) (by simp only [List.getElem?_toArray, List.getElem?_cons_zero, List.getElem?_cons_succ]; rfl) (by kernel_rfl) (by kernel_rfl) (by kernel_rfl) (by kernel_rfl) (by kernel_rfl) (fun _ _ _ h => h) (Or.inl ⟨by rfl, ?_⟩) (by assumption) ?_
          rotate_left
          · intro w hSw; (try dsimp only at hSw); go_simp; try (with_reducible rfl)
          try simp only [Act.put, List.setIfInBounds_toArray, List.set_cons_zero, List.set_cons_succ]
          refine wpAnyT_take (i := 27) (v := ?_) (by simp only [List.getElem?_toArray, List.getElem?_cons_zero, List.getElem?_cons_succ]; rfl) (by kernel_rfl) (by kernel_rfl) (by kernel_rfl) (by kernel_rfl) (by kernel_rfl) (fun _ _ _ h => h) (Or.inl ⟨by rfl, ?_⟩) (by assumption) ?_
          rotate_left
          · intro w hSw; (try dsimp only at hSw); go_simp; try (with_reducible rfl)
          try simp only [Act.put, List.setIfInBounds_toArray, List.set_cons_zero, List.set_cons_succ]
          refine wpAnyT_ready (rs := [24]) (by kernel_rfl) (by simp) (AllReadyT.cons (by simp only [List.getElem?_toArray, List.getElem?_cons_zero, List.getElem?_cons_succ]; rfl) (fun K hK => ?_) AllReadyT.nil)
          go_simp
          go_at_call 19
          refine hdec.mono ?_
          rintro e w24 ⟨g24, rfl, hg24, hs24, hb24⟩
          have hC24 := And.intro ((hb24.cell (World.block_lt_of_cell? _ _ hC17.1)).trans hC17.1) (And.intro ((hb24.cell (World.block_lt_of_cell? _ _ hC17.2.1)).trans hC17.2.1) ((hb24.cell (World.block_lt_of_cell? _ _ hC17.2.2)).trans hC17.2.2))
          have hcD24 := conv_str (c := 16) (brow_bytes (hs24)) (fun e => by rw [tab_length] at e; omega)
          rw [tab_length] at hcD24
          have H24 := Lib.hid (And.intro (hs24) (And.intro (PC.below H17.out.2.1 hb24) (And.intro (RC.below H17.out.2.2.1 hb24) (And.intro (H17.out.2.2.2.1.below hb24) (And.intro (H17.out.2.2.2.2.1.below hb24 H17.out.2.2.2.2.1.lt) (And.intro (H17.out.2.2.2.2.2.1.trans (hb24.mono H17.out.2.2.2.2.2.1.size)) ((hb24.block D (lt_of_heap H17.out.2.2.2.2.2.2)).trans H17.out.2.2.2.2.2.2)))))))
          have hrdec := rdec_any H24.out.2.2.1 hnw A2 c2 _ H24.out.2.2.2.1
          clear hs24
          refine hK.out _ _ ?_ (fun hHeld => ?_)
          · exact hC24
          clear hK K
          try simp only [Act.put, List.setIfInBounds_toArray, List.set_cons_zero, List.set_cons_succ]
          refine wpAnyT_ready (rs := [25, 28]) (by kernel_rfl) (by simp) (AllReadyT.cons (by simp only [List.getElem?_toArray, List.getElem?_cons_zero, List.getElem?_cons_succ]; rfl) (fun K hK => ?_) (AllReadyT.cons (by simp only [List.getElem?_toArray, List.getElem?_cons_zero, List.getElem?_cons_succ]; rfl) (fun K hK => ?_) AllReadyT.nil))
          · skip
            go_simp
            refine hK.out _ _ ?_ (fun hHeld => ?_)
            · exact hHeld
            clear hK K
            try simp only [Act.put, List.setIfInBounds_toArray, List.set_cons_zero, List.set_cons_succ]
            refine wpAnyT_ready (rs := [28]) (by kernel_rfl) (by simp) (AllReadyT.cons (by simp only [List.getElem?_toArray, List.getElem?_cons_zero, List.getElem?_cons_succ]; rfl) (fun K hK => ?_) AllReadyT.nil)
            go_simp
            go_at_call 22
            refine hrdec.mono ?_
            rintro e w28 ⟨g28, rfl, hg28, hs28, hb28⟩
            have hC28 := And.intro ((hb28.cell (World.block_lt_of_cell? _ _ hC24.1)).trans hC24.1) (And.intro ((hb28.cell (World.block_lt_of_cell? _ _ hC24.2.1)).trans hC24.2.1) ((hb28.cell (World.block_lt_of_cell? _ _ hC24.2.2)).trans hC24.2.2))
            have hcD28 := conv_str (c := 16) (brow_bytes (H24.out.1.below hb28 H24.out.1.lt)) (fun e => by rw [tab_length] at e; omega)
            rw [tab_length] at hcD28
            have hcR28 := conv_str (c := 16) (brow_bytes (hs28)) (fun e => by rw [tab_length] at e; omega)
            rw [tab_length] at hcR28
            have H28 := Lib.hid (And.intro (True.intro) (And.intro (PC.below H24.out.2.1 hb28) (And.intro (RC.below H24.out.2.2.1 hb28) (And.intro (H24.out.2.2.2.1.below hb28) (And.intro (H24.out.2.2.2.2.1.below hb28 H24.out.2.2.2.2.1.lt) (And.intro (H24.out.2.2.2.2.2.1.trans (hb28.mono H24.out.2.2.2.2.2.1.size)) ((hb28.block D (lt_of_heap H24.out.2.2.2.2.2.2)).trans H24.out.2.2.2.2.2.2)))))))
            have cr := H28.out.2.2.2.2.1.cell 0
            simp only [List.getElem?_toArray, List.getElem?_cons_zero] at cr
            have fr := H28.out.2.2.2.2.1.frozen 0
            clear hs28
            refine hK.out _ _ ?_ (fun hHeld => ?_)
            · exact hC28
            clear hK K
            try simp only [Act.put, List.setIfInBounds_toArray, List.set_cons_zero, List.set_cons_succ]
            refine wpAnyT_ready (rs := [29]) (by kernel_rfl) (by simp) (AllReadyT.cons (by simp only [List.getElem?_toArray, List.getElem?_cons_zero, List.getElem?_cons_succ]; rfl) (fun K hK => ?_) AllReadyT.nil)
            go_simp
            refine hK.out _ _ ?_ (fun hHeld => ?_)
            · exact hHeld
            clear hK K
            try simp only [Act.put, List.setIfInBounds_toArray, List.set_cons_zero, List.set_cons_succ]
            refine wpAnyT_take (i := 30) (v := ?_) (by simp only [List.getElem?_toArray, List.getElem?_cons_zero, List.getElem?_cons_succ]; rfl) (by kernel_rfl) (by kernel_rfl) (by kernel_rfl) (by kernel_rfl) (by kernel_rfl) (fun _ _ _ h => h) (Or.inl ⟨by rfl, ?_⟩) (by assumption) ?_
            rotate_left
            · intro w hSw; (try dsimp only at hSw); go_simp; try (with_reducible rfl)
            try simp only [Act.put, List.setIfInBounds_toArray, List.set_cons_zero, List.set_cons_succ]
            refine wpAnyT_take (i := 31) (v := ?_) (by simp only [List.getElem?_toArray, List.getElem?_cons_zero, List.getElem?_cons_succ]; rfl) (by kernel_rfl) (by kernel_rfl) (by kernel_rfl) (by kernel_rfl) (by kernel_rfl) (fun _ _ _ h => h) (Or.inl ⟨by rfl, ?_⟩) (by assumption) ?_
            rotate_left
            · intro w hSw; (try dsimp only at hSw); go_simp; try (with_reducible rfl)
            try simp only [Act.put, List.setIfInBounds_toArray, List.set_cons_zero, List.set_cons_succ]
            refine wpAnyT_ready (rs := [32]) (by kernel_rfl) (by simp) (AllReadyT.store (by simp only [List.getElem?_toArray, List.getElem?_cons_zero, List.getElem?_cons_succ]; rfl) (by simp) (fun K hK => ?_) AllReadyT.nil)
            go_simp
            refine hK.out _ _ ?_
            clear hK K
            try simp only [Act.put, List.setIfInBounds_toArray, List.set_cons_zero, List.set_cons_succ]
            refine wpAnyT_done (by kernel_rfl) ?_ _
            refine NoPanic.normal ?_
            gi_wp2
            have hDf : (w28.setCell ⟨w.heap.size, 0, none⟩ (.bool true)).heap[D]? = some (.deferred (some [])) := (Below.heap_setCell w28 ⟨w.heap.size, 0, none⟩ (.bool true) D (by have := HDl.out.2; show D ≠ w.heap.size; omega)).trans H28.out.2.2.2.2.2.2
            refine ⟨by simp, .inl ⟨_, _, rfl, run_takeDeferred hDf, ?_⟩⟩
            have hrf := (H28.out.2.2.2.2.1.set_ 0 (.bool true)).kc (kc_put (o' := .deferred none) hDf rfl)
            have crf := hrf.cell 0
            simp only [List.setIfInBounds_toArray, List.set_cons_zero, List.getElem?_toArray, List.getElem?_cons_zero] at crf
            refine ⟨.bool true, ?_, rfl, ?_⟩
            · simp [results, Try.results3, go_sem, crf]
            · exact (H28.out.2.2.2.2.2.1.setCell (p := ⟨w.heap.size, 0, none⟩) (Nat.le_refl _) _).trans (belowK_b (w := w) (Nat.le_refl _) _ D _ _ (by have := HDl.out.2; omega) hDf rfl rfl)
          · skip
            go_simp
            go_at_call 22
            refine hrdec.mono ?_
            rintro e w28 ⟨g28, rfl, hg28, hs28, hb28⟩
            have hC28 := And.intro ((hb28.cell (World.block_lt_of_cell? _ _ hC24.1)).trans hC24.1) (And.intro ((hb28.cell (World.block_lt_of_cell? _ _ hC24.2.1)).trans hC24.2.1) ((hb28.cell (World.block_lt_of_cell? _ _ hC24.2.2)).trans hC24.2.2))
            have hcD28 := conv_str (c := 16) (brow_bytes (H24.out.1.below hb28 H24.out.1.lt)) (fun e => by rw [tab_length] at e; omega)
            rw [tab_length] at hcD28
            have hcR28 := conv_str (c := 16) (brow_bytes (hs28)) (fun e => by rw [tab_length] at e; omega)
            rw [tab_length] at hcR28
            have H28 := Lib.hid (And.intro (True.intro) (And.intro (PC.below H24.out.2.1 hb28) (And.intro (RC.below H24.out.2.2.1 hb28) (And.intro (H24.out.2.2.2.1.below hb28) (And.intro (H24.out.2.2.2.2.1.below hb28 H24.out.2.2.2.2.1.lt) (And.intro (H24.out.2.2.2.2.2.1.trans (hb28.mono H24.out.2.2.2.2.2.1.size)) ((hb28.block D (lt_of_heap H24.out.2.2.2.2.2.2)).trans H24.out.2.2.2.2.2.2)))))))
            have cr := H28.out.2.2.2.2.1.cell 0
            simp only [List.getElem?_toArray, List.getElem?_cons_zero] at cr
            have fr := H28.out.2.2.2.2.1.frozen 0
            clear hs28
            refine hK.out _ _ ?_ (fun hHeld => ?_)
            · exact hC28
            clear hK K
            try simp only [Act.put, List.setIfInBounds_toArray, List.set_cons_zero, List.set_cons_succ]
            refine wpAnyT_ready (rs := [25, 29]) (by kernel_rfl) (by simp) (AllReadyT.cons (by simp only [List.getElem?_toArray, List.getElem?_cons_zero, List.getElem?_cons_succ]; rfl) (fun K hK => ?_) (AllReadyT.cons (by simp only [List.getElem?_toArray, List.getElem?_cons_zero, List.getElem?_cons_succ]; rfl) (fun K hK => ?_) AllReadyT.nil))
            · skip
              go_simp
              refine hK.out _ _ ?_ (fun hHeld => ?_)
              · exact hHeld
              clear hK K
              try simp only [Act.put, List.setIfInBounds_toArray, List.set_cons_zero, List.set_cons_succ]
              refine wpAnyT_ready (rs := [29]) (by kernel_rfl) (by simp) (AllReadyT.cons (by simp only [List.getElem?_toArray, List.getElem?_cons_zero, List.getElem?_cons_succ]; rfl) (fun K hK => ?_) AllReadyT.nil)
              go_simp
              refine hK.out _ _ ?_ (fun hHeld => ?_)
              · exact hHeld
              clear hK K
              try simp only [Act.put, List.setIfInBounds_toArray, List.set_cons_zero, List.set_cons_succ]
              refine wpAnyT_take (i := 30) (v := ?_) (by simp only [List.getElem?_toArray, List.getElem?_cons_zero, List.getElem?_cons_succ]; rfl) (by kernel_rfl) (by kernel_rfl) (by kernel_rfl) (by kernel_rfl) (by kernel_rfl) (fun _ _ _ h => h) (Or.inl ⟨by rfl, ?_⟩) (by assumption) ?_
              rotate_left
              · intro w hSw; (try dsimp only at hSw); go_simp; try (with_reducible rfl)
              try simp only [Act.put, List.setIfInBounds_toArray, List.set_cons_zero, List.set_cons_succ]
              refine wpAnyT_take (i := 31) (v := ?_) (by simp only [List.getElem?_toArray, List.getElem?_cons_zero, List.getElem?_cons_succ]; rfl) (by kernel_rfl) (by kernel_rfl) (by kernel_rfl) (by kernel_rfl) (by kernel_rfl) (fun _ _ _ h => h) (Or.inl ⟨by rfl, ?_⟩) (by assumption) ?_
              rotate_left
              · intro w hSw; (try dsimp only at hSw); go_simp; try (with_reducible rfl)
              try simp only [Act.put, List.setIfInBounds_toArray, List.set_cons_zero, List.set_cons_succ]
              refine wpAnyT_ready (rs := [32]) (by kernel_rfl) (by simp) (AllReadyT.store (by simp only [List.getElem?_toArray, List.getElem?_cons_zero, List.getElem?_cons_succ]; rfl) (by simp) (fun K hK => ?_) AllReadyT.nil)
              go_simp
              refine hK.out _ _ ?_
              clear hK K
              try simp only [Act.put, List.setIfInBounds_toArray, List.set_cons_zero, List.set_cons_succ]
              refine wpAnyT_done (by kernel_rfl) ?_ _
              refine NoPanic.normal ?_
              gi_wp2
              have hDf : (w28.setCell ⟨w.heap.size, 0, none⟩ (.bool true)).heap[D]? = some (.deferred (some [])) := (Below.heap_setCell w28 ⟨w.heap.size, 0, none⟩ (.bool true) D (by have := HDl.out.2; show D ≠ w.heap.size; omega)).trans H28.out.2.2.2.2.2.2
              refine ⟨by simp, .inl ⟨_, _, rfl, run_takeDeferred hDf, ?_⟩⟩
              have hrf := (H28.out.2.2.2.2.1.set_ 0 (.bool true)).kc (kc_put (o' := .deferred none) hDf rfl)
              have crf := hrf.cell 0
              simp only [List.setIfInBounds_toArray, List.set_cons_zero, List.getElem?_toArray, List.getElem?_cons_zero] at crf
              refine ⟨.bool true, ?_, rfl, ?_⟩
              · simp [results, Try.results3, go_sem, crf]
              · exact (H28.out.2.2.2.2.2.1.setCell (p := ⟨w.heap.size, 0, none⟩) (Nat.le_refl _) _).trans (belowK_b (w := w) (Nat.le_refl _) _ D _ _ (by have := HDl.out.2; omega) hDf rfl rfl)
            · skip
              go_simp
              refine hK.out _ _ ?_ (fun hHeld => ?_)
              · exact hHeld
              clear hK K
              try simp only [Act.put, List.setIfInBounds_toArray, List.set_cons_zero, List.set_cons_succ]
              refine wpAnyT_ready (rs := [25]) (by kernel_rfl) (by simp) (AllReadyT.cons (by simp only [List.getElem?_toArray, List.getElem?_cons_zero, List.getElem?_cons_succ]; rfl) (fun K hK => ?_) AllReadyT.nil)
              go_simp
              refine hK.out _ _ ?_ (fun hHeld => ?_)
              · exact hHeld
              clear hK K
              try simp only [Act.put, List.setIfInBounds_toArray, List.set_cons_zero, List.set_cons_succ]
              refine wpAnyT_take (i := 30) (v := ?_) (by simp only [List.getElem?_toArray, List.getElem?_cons_zero, List.getElem?_cons_succ]; rfl) (by kernel_rfl) (by kernel_rfl) (by kernel_rfl) (by kernel_rfl) (by kernel_rfl) (fun _ _ _ h => h) (Or.inl ⟨by rfl, ?_⟩) (by assumption) ?_
              rotate_left
              · intro w hSw; (try dsimp only at hSw); go_simp; try (with_reducible rfl)
              try simp only [Act.put, List.setIfInBounds_toArray, List.set_cons_zero, List.set_cons_succ]
              refine wpAnyT_take (i := 31) (v := ?_) (by simp only [List.getElem?_toArray, List.getElem?_cons_zero, List.getElem?_cons_succ]; rfl) (by kernel_rfl) (by kernel_rfl) (by kernel_rfl) (by kernel_rfl) (by kernel_rfl) (fun _ _ _ h => h) (Or.inl ⟨by rfl, ?_⟩) (by assumption) ?_
              rotate_left
              · intro w hSw; (try dsimp only at hSw); go_simp; try (with_reducible rfl)
              try simp only [Act.put, List.setIfInBounds_toArray, List.set_cons_zero, List.set_cons_succ]
              refine wpAnyT_ready (rs := [32]) (by kernel_rfl) (by simp) (AllReadyT.store (by simp only [List.getElem?_toArray, List.getElem?_cons_zero, List.getElem?_cons_succ]; rfl) (by simp) (fun K hK => ?_) AllReadyT.nil)
              go_simp
              refine hK.out _ _ ?_
              clear hK K
              try simp only [Act.put, List.setIfInBounds_toArray, List.set_cons_zero, List.set_cons_succ]
              refine wpAnyT_done (by kernel_rfl) ?_ _
              refine NoPanic.normal ?_
              gi_wp2
              have hDf : (w28.setCell ⟨w.heap.size, 0, none⟩ (.bool true)).heap[D]? = some (.deferred (some [])) := (Below.heap_setCell w28 ⟨w.heap.size, 0, none⟩ (.bool true) D (by have := HDl.out.2; show D ≠ w.heap.size; omega)).trans H28.out.2.2.2.2.2.2
              refine ⟨by simp, .inl ⟨_, _, rfl, run_takeDeferred hDf, ?_⟩⟩
              have hrf := (H28.out.2.2.2.2.1.set_ 0 (.bool true)).kc (kc_put (o' := .deferred none) hDf rfl)
              have crf := hrf.cell 0
              simp only [List.setIfInBounds_toArray, List.set_cons_zero, List.getElem?_toArray, List.getElem?_cons_zero] at crf
              refine ⟨.bool true, ?_, rfl, ?_⟩
              · simp [results, Try.results3, go_sem, crf]
              · exact (H28.out.2.2.2.2.2.1.setCell (p := ⟨w.heap.size, 0, none⟩) (Nat.le_refl _) _).trans (belowK_b (w := w) (Nat.le_refl _) _ D _ _ (by have := HDl.out.2; omega) hDf rfl rfl)
        · skip
          go_simp
          refine hK.out _ _ ?_ (fun hHeld => ?_)
          · exact hHeld
          clear hK K
          try simp only [Act.put, List.setIfInBounds_toArray, List.set_cons_zero, List.set_cons_succ]
          refine wpAnyT_ready (rs := [14]) (by kernel_rfl) (by simp) (AllReadyT.cons (by simp only [List.getElem?_toArray, List.getElem?_cons_zero, List.getElem?_cons_succ]; rfl) (fun K hK => ?_) AllReadyT.nil)
          go_simp
          refine hK.out _ _ ?_ (fun hHeld => ?_)
          · exact hHeld
          clear hK K
          try simp only [Act.put, List.setIfInBounds_toArray, List.set_cons_zero, List.set_cons_succ]
          refine wpAnyT_take (i := 19) (v := ?_) (by simp only [List.getElem?_toArray, List.getElem?_cons_zero, List.getElem?_cons_succ]; rfl) (by kernel_rfl) (by kernel_rfl) (by kernel_rfl) (by kernel_rfl) (by kernel_rfl) (fun _ _ _ h => h) (Or.inl ⟨by rfl, ?_⟩) (by assumption) ?_
          rotate_left
          · intro w hSw; (try dsimp only at hSw); go_simp; try (with_reducible rfl)
          try simp only [Act.put, List.setIfInBounds_toArray, List.set_cons_zero, List.set_cons_succ]
          refine wpAnyT_take (i := 20) (v := ?_) (by simp only [List.getElem?_toArray, List.getElem?_cons_zero, List.getElem?_cons_succ]; rfl) (by kernel_rfl) (by kernel_rfl) (by kernel_rfl) (by kernel_rfl) (by kernel_rfl) (fun _ _ _ h => h) (Or.inl ⟨by rfl, ?_⟩) (by assumption) ?_
          rotate_left
          · intro w hSw; (try dsimp only at hSw); go_simp; try (with_reducible rfl)
          try simp only [Act.put, List.setIfInBounds_toArray, List.set_cons_zero, List.set_cons_succ]
          refine wpAnyT_take (i := 21) (v := ?_) (by simp only [List.getElem?_toArray, List.getElem?_cons_zero, List.getElem?_cons_succ]; rfl) (by kernel_rfl) (by kernel_rfl) (by kernel_rfl) (by kernel_rfl) (by kernel_rfl) (fun _ _ _ h => h) (Or.inl ⟨by rfl, ?_⟩) (by assumption) ?_
          rotate_left
          · intro w hSw; (try dsimp only at hSw); go_simp; try (with_reducible rfl)
          try simp only [Act.put, List.setIfInBounds_toArray, List.set_cons_zero, List.set_cons_succ]
          refine wpAnyT_take (i := 22) (v := ?_) (by simp only [List.getElem?_toArray, List.getElem?_cons_zero, List.getElem?_cons_succ]; rfl) (by kernel_rfl) (by kernel_rfl) (by kernel_rfl) (by kernel_rfl) (by kernel_rfl) (fun _ _ _ h => h) (Or.inl ⟨by rfl, ?_⟩) (by assumption) ?_
          rotate_left
          · intro w hSw; (try dsimp only at hSw); go_simp; try (with_reducible rfl)
          try simp only [Act.put, List.setIfInBounds_toArray, List.set_cons_zero, List.set_cons_succ]
          refine wpAnyT_take (i := 23) (v := ?_) (by simp only [List.getElem?_toArray, List.getElem?_cons_zero, List.getElem?_cons_succ]; rfl) (by kernel_rfl) (by kernel_rfl) (by kernel_rfl) (by kernel_rfl) (by kernel_rfl) (fun _ _ _ h => h) (Or.inl ⟨by rfl, ?_⟩) (by assumption) ?_
          rotate_left
          · intro w hSw; (try dsimp only at hSw); go_simp; try (with_reducible rfl)
          try simp only [Act.put, List.setIfInBounds_toArray, List.set_cons_zero, List.set_cons_succ]
          refine wpAnyT_take (i := 26) (v := ?_) (by simp only [List.getElem?_toArray, List.getElem?_cons_zero, List.getElem?_cons_succ]; rfl) (by kernel_rfl) (by kernel_rfl) (by kernel_rfl) (by kernel_rfl) (by kernel_rfl) (fun _ _ _ h => h) (Or.inl ⟨by rfl, ?_⟩) (by assumption) ?_
          rotate_left
          · intro w hSw; (try dsimp only at hSw); go_simp; try (with_reducible rfl)
          try simp only [Act.put, List.setIfInBounds_toArray, List.set_cons_zero, List.set_cons_succ]
          refine wpAnyT_take (i := 27) (v := ?_) (by simp only [List.getElem?_toArray, List.getElem?_cons_zero, List.getElem?_cons_succ]; rfl) (by kernel_rfl) (by kernel_rfl) (by kernel_rfl) (by kernel_rfl) (by kernel_rfl) (fun _ _ _ h => h) (Or.inl ⟨by rfl, ?_⟩) (by assumption) ?_
          rotate_left
          · intro w hSw; (try dsimp only at hSw); go_simp; try (with_reducible rfl)
          try simp only [Act.put, List.setIfInBounds_toArray, List.set_cons_zero, List.set_cons_succ]
          refine wpAnyT_ready (rs := [24]) (by kernel_rfl) (by simp) (AllReadyT.cons (by simp only [List.getElem?_toArray, List.getElem?_cons_zero, List.getElem?_cons_succ]; rfl) (fun K hK => ?_) AllReadyT.nil)
          go_simp
          go_at_call 19
          refine hdec.mono ?_
          rintro e w24 ⟨g24, rfl, hg24, hs24, hb24⟩
          have hC24 := And.intro ((hb24.cell (World.block_lt_of_cell? _ _ hC17.1)).trans hC17.1) (And.intro ((hb24.cell (World.block_lt_of_cell? _ _ hC17.2.1)).trans hC17.2.1) ((hb24.cell (World.block_lt_of_cell? _ _ hC17.2.2)).trans hC17.2.2))
          have hcD24 := conv_str (c := 16) (brow_bytes (hs24)) (fun e => by rw [tab_length] at e; omega)
          rw [tab_length] at hcD24
          have H24 := Lib.hid (And.intro (hs24) (And.intro (PC.below H17.out.2.1 hb24) (And.intro (RC.below H17.out.2.2.1 hb24) (And.intro (H17.out.2.2.2.1.below hb24) (And.intro (H17.out.2.2.2.2.1.below hb24 H17.out.2.2.2.2.1.lt) (And.intro (H17.out.2.2.2.2.2.1.trans (hb24.mono H17.out.2.2.2.2.2.1.size)) ((hb24.block D (lt_of_heap H17.out.2.2.2.2.2.2)).trans H17.out.2.2.2.2.2.2)))))))
          have hrdec := rdec_any H24.out.2.2.1 hnw A2 c2 _ H24.out.2.2.2.1
          clear hs24
          refine hK.out _ _ ?_ (fun hHeld => ?_)
          · exact hC24
          clear hK K
          try simp only [Act.put, List.setIfInBounds_toArray, List.set_cons_zero, List.set_cons_succ]
          refine wpAnyT_ready (rs := [25, 28]) (by kernel_rfl) (by simp) (AllReadyT.cons (by simp only [List.getElem?_toArray, List.getElem?_cons_zero, List.getElem?_cons_succ]; rfl) (fun K hK => ?_) (AllReadyT.cons (by simp only [List.getElem?_toArray, List.getElem?_cons_zero, List.getElem?_cons_succ]; rfl) (fun K hK => ?_) AllReadyT.nil))
          · skip
            go_simp
            refine hK.out _ _ ?_ (fun hHeld => ?_)
            · exact hHeld
            clear hK K
            try simp only [Act.put, List.setIfInBounds_toArray, List.set_cons_zero, List.set_cons_succ]
            refine wpAnyT_ready (rs := [28]) (by kernel_rfl) (by simp) (AllReadyT.cons (by simp only [List.getElem?_toArray, List.getElem?_cons_zero, List.getElem?_cons_succ]; rfl) (fun K hK => ?_) AllReadyT.nil)
            go_simp
            go_at_call 22
            refine hrdec.mono ?_
            rintro e w28 ⟨g28, rfl, hg28, hs28, hb28⟩
            have hC28 := And.intro ((hb28.cell (World.block_lt_of_cell? _ _ hC24.1)).trans hC24.1) (And.intro ((hb28.cell (World.block_lt_of_cell? _ _ hC24.2.1)).trans hC24.2.1) ((hb28.cell (World.block_lt_of_cell? _ _ hC24.2.2)).trans hC24.2.2))
            have hcD28 := conv_str (c := 16) (brow_bytes (H24.out.1.below hb28 H24.out.1.lt)) (fun e => by rw [tab_length] at e; omega)
            rw [tab_length] at hcD28
            have hcR28 := conv_str (c := 16) (brow_bytes (hs28)) (fun e => by rw [tab_length] at e; omega)
            rw [tab_length] at hcR28
            have H28 := Lib.hid (And.intro (True.intro) (And.intro (PC.below H24.out.2.1 hb28) (And.intro (RC.below H24.out.2.2.1 hb28) (And.intro (H24.out.2.2.2.1.below hb28) (And.intro (H24.out.2.2.2.2.1.below hb28 H24.out.2.2.2.2.1.lt) (And.intro (H24.out.2.2.2.2.2.1.trans (hb28.mono H24.out.2.2.2.2.2.1.size)) ((hb28.block D (lt_of_heap H24.out.2.2.2.2.2.2)).trans H24.out.2.2.2.2.2.2)))))))
            have cr := H28.out.2.2.2.2.1.cell 0
            simp only [List.getElem?_toArray, List.getElem?_cons_zero] at cr
            have fr := H28.out.2.2.2.2.1.frozen 0
            clear hs28
            refine hK.out _ _ ?_ (fun hHeld => ?_)
            · exact hC28
            clear hK K
            try simp only [Act.put, List.setIfInBounds_toArray, List.set_cons_zero, List.set_cons_succ]
            refine wpAnyT_ready (rs := [29]) (by kernel_rfl) (by simp) (AllReadyT.cons (by simp only [List.getElem?_toArray, List.getElem?_cons_zero, List.getElem?_cons_succ]; rfl) (fun K hK => ?_) AllReadyT.nil)
            go_simp
            refine hK.out _ _ ?_ (fun hHeld => ?_)
            · exact hHeld
            clear hK K
            try simp only [Act.put, List.setIfInBounds_toArray, List.set_cons_zero, List.set_cons_succ]
            refine wpAnyT_take (i := 30) (v := ?_) (by simp only [List.getElem?_toArray, List.getElem?_cons_zero, List.getElem?_cons_succ]; rfl) (by kernel_rfl) (by kernel_rfl) (by kernel_rfl) (by kernel_rfl) (by kernel_rfl) (fun _ _ _ h => h) (Or.inl ⟨by rfl, ?_⟩) (by assumption) ?_
            rotate_left
            · intro w hSw; (try dsimp only at hSw); go_simp; try (with_reducible rfl)
            try simp only [Act.put, List.setIfInBounds_toArray, List.set_cons_zero, List.set_cons_succ]
            refine wpAnyT_take (i := 31) (v := ?_) (by simp only [List.getElem?_toArray, List.getElem?_cons_zero, List.getElem?_cons_succ]; rfl) (by kernel_rfl) (by kernel_rfl) (by kernel_rfl) (by kernel_rfl) (by kernel_rfl) (fun _ _ _ h => h) (Or.inl ⟨by rfl, ?_⟩) (by assumption) ?_
            rotate_left
            · intro w hSw; (try dsimp only at hSw); go_simp; try (with_reducible rfl)
            try simp only [Act.put, List.setIfInBounds_toArray, List.set_cons_zero, List.set_cons_succ]
            refine wpAnyT_ready (rs := [32]) (by kernel_rfl) (by simp) (AllReadyT.store (by simp only [List.getElem?_toArray, List.getElem?_cons_zero, List.getElem?_cons_succ]; rfl) (by simp) (fun K hK => ?_) AllReadyT.nil)
            go_simp
            refine hK.out _ _ ?_
            clear hK K
            try simp only [Act.put, List.setIfInBounds_toArray, List.set_cons_zero, List.set_cons_succ]
            refine wpAnyT_done (by kernel_rfl) ?_ _
            refine NoPanic.normal ?_
            gi_wp2
            have hDf : (w28.setCell ⟨w.heap.size, 0, none⟩ (.bool true)).heap[D]? = some (.deferred (some [])) := (Below.heap_setCell w28 ⟨w.heap.size, 0, none⟩ (.bool true) D (by have := HDl.out.2; show D ≠ w.heap.size; omega)).trans H28.out.2.2.2.2.2.2
            refine ⟨by simp, .inl ⟨_, _, rfl, run_takeDeferred hDf, ?_⟩⟩
            have hrf := (H28.out.2.2.2.2.1.set_ 0 (.bool true)).kc (kc_put (o' := .deferred none) hDf rfl)
            have crf := hrf.cell 0
            simp only [List.setIfInBounds_toArray, List.set_cons_zero, List.getElem?_toArray, List.getElem?_cons_zero] at crf
            refine ⟨.bool true, ?_, rfl, ?_⟩
            · simp [results, Try.results3, go_sem, crf]
            · exact (H28.out.2.2.2.2.2.1.setCell (p := ⟨w.heap.size, 0, none⟩) (Nat.le_refl _) _).trans (belowK_b (w := w) (Nat.le_refl _) _ D _ _ (by have := HDl.out.2; omega) hDf rfl rfl)
          · skip
            go_simp
            go_at_call 22
            refine hrdec.mono ?_
            rintro e w28 ⟨g28, rfl, hg28, hs28, hb28⟩
            have hC28 := And.intro ((hb28.cell (World.block_lt_of_cell? _ _ hC24.1)).trans hC24.1) (And.intro ((hb28.cell (World.block_lt_of_cell? _ _ hC24.2.1)).trans hC24.2.1) ((hb28.cell (World.block_lt_of_cell? _ _ hC24.2.2)).trans hC24.2.2))
            have hcD28 := conv_str (c := 16) (brow_bytes (H24.out.1.below hb28 H24.out.1.lt)) (fun e => by rw [tab_length] at e; omega)
            rw [tab_length] at hcD28
            have hcR28 := conv_str (c := 16) (brow_bytes (hs28)) (fun e => by rw [tab_length] at e; omega)
            rw [tab_length] at hcR28
            have H28 := Lib.hid (And.intro (True.intro) (And.intro (PC.below H24.out.2.1 hb28) (And.intro (RC.below H24.out.2.2.1 hb28) (And.intro (H24.out.2.2.2.1.below hb28) (And.intro (H24.out.2.2.2.2.1.below hb28 H24.out.2.2.2.2.1.lt) (And.intro (H24.out.2.2.2.2.2.1.trans (hb28.mono H24.out.2.2.2.2.2.1.size)) ((hb28.block D (lt_of_heap H24.out.2.2.2.2.2.2)).trans H24.out.2.2.2.2.2.2)))))))
            have cr := H28.out.2.2.2.2.1.cell 0
            simp only [List.getElem?_toArray, List.getElem?_cons_zero] at cr
            have fr := H28.out.2.2.2.2.1.frozen 0
            clear hs28
            refine hK.out _ _ ?_ (fun hHeld => ?_)
            · exact hC28
            clear hK K
            try simp only [Act.put, List.setIfInBounds_toArray, List.set_cons_zero, List.set_cons_succ]
            refine wpAnyT_ready (rs := [25, 29]) (by kernel_rfl) (by simp) (AllReadyT.cons (by simp only [List.getElem?_toArray, List.getElem?_cons_zero, List.getElem?_cons_succ]; rfl) (fun K hK => ?_) (AllReadyT.cons (by simp only [List.getElem?_toArray, List.getElem?_cons_zero, List.getElem?_cons_succ]; rfl) (fun K hK => ?_) AllReadyT.nil))
            · skip
              go_simp
              refine hK.out _ _ ?_ (fun hHeld => ?_)
              · exact hHeld
              clear hK K
              try simp only [Act.put, List.setIfInBounds_toArray, List.set_cons_zero, List.set_cons_succ]
              refine wpAnyT_ready (rs := [29]) (by kernel_rfl) (by simp) (AllReadyT.cons (by simp only [List.getElem?_toArray, List.getElem?_cons_zero, List.getElem?_cons_succ]; rfl) (fun K hK => ?_) AllReadyT.nil)
              go_simp
              refine hK.out _ _ ?_ (fun hHeld => ?_)
              · exact hHeld
              clear hK K
              try simp only [Act.put, List.setIfInBounds_toArray, List.set_cons_zero, List.set_cons_succ]
              refine wpAnyT_take (i := 30) (v := ?_) (by simp only [List.getElem?_toArray, List.getElem?_cons_zero, List.getElem?_cons_succ]; rfl) (by kernel_rfl) (by kernel_rfl) (by kernel_rfl) (by kernel_rfl) (by kernel_rfl) (fun _ _ _ h => h) (Or.inl ⟨by rfl, ?_⟩) (by assumption) ?_
              rotate_left
              · intro w hSw; (try dsimp only at hSw); go_simp; try (with_reducible rfl)
              try simp only [Act.put, List.setIfInBounds_toArray, List.set_cons_zero, List.set_cons_succ]
              refine wpAnyT_take (i := 31) (v := ?_) (by simp only [List.getElem?_toArray, List.getElem?_cons_zero, List.getElem?_cons_succ]; rfl) (by kernel_rfl) (by kernel_rfl) (by kernel_rfl) (by kernel_rfl) (by kernel_rfl) (fun _ _ _ h => h) (Or.inl ⟨by rfl, ?_⟩) (by assumption) ?_
              rotate_left
              · intro w hSw; (try dsimp only at hSw); go_simp; try (with_reducible rfl)
              try simp only [Act.put, List.setIfInBounds_toArray, List.set_cons_zero, List.set_cons_succ]
              refine wpAnyT_ready (rs := [32]) (by kernel_rfl) (by simp) (AllReadyT.store (by simp only [List.getElem?_toArray, List.getElem?_cons_zero, List.getElem?_cons_succ]; rfl) (by simp) (fun K hK => ?_) AllReadyT.nil)
              go_simp
              refine hK.out _ _ ?_
              clear hK K
              try simp only [Act.put, List.setIfInBounds_toArray, List.set_cons_zero, List.set_cons_succ]
              refine wpAnyT_done (by kernel_rfl) ?_ _
              refine NoPanic.normal ?_
              gi_wp2
              have hDf : (w28.setCell ⟨w.heap.size, 0, none⟩ (.bool true)).heap[D]? = some (.deferred (some [])) := (Below.heap_setCell w28 ⟨w.heap.size, 0, none⟩ (.bool true) D (by have := HDl.out.2; show D ≠ w.heap.size; omega)).trans H28.out.2.2.2.2.2.2
              refine ⟨by simp, .inl ⟨_, _, rfl, run_takeDeferred hDf, ?_⟩⟩
              have hrf := (H28.out.2.2.2.2.1.set_ 0 (.bool true)).kc (kc_put (o' := .deferred none) hDf rfl)
              have crf := hrf.cell 0
              simp only [List.setIfInBounds_toArray, List.set_cons_zero, List.getElem?_toArray, List.getElem?_cons_zero] at crf
              refine ⟨.bool true, ?_, rfl, ?_⟩
              · simp [results, Try.results3, go_sem, crf]
              · exact (H28.out.2.2.2.2.2.1.setCell (p := ⟨w.heap.size, 0, none⟩) (Nat.le_refl _) _).trans (belowK_b (w := w) (Nat.le_refl _) _ D _ _ (by have := HDl.out.2; omega) hDf rfl rfl)
            · skip
              go_simp
              refine hK.out _ _ ?_ (fun hHeld => ?_)
              · exact hHeld
              clear hK K
              try simp only [Act.put, List.setIfInBounds_toArray, List.set_cons_zero, List.set_cons_succ]
              refine wpAnyT_ready (rs := [25]) (by kernel_rfl) (by simp) (AllReadyT.cons (by simp only [List.getElem?_toArray, List.getElem?_cons_zero, List.getElem?_cons_succ]; rfl) (fun K hK => ?_) AllReadyT.nil)
              go_simp
              refine hK.out _ _ ?_ (fun hHeld => ?_)
              · exact hHeld
              clear hK K
              try simp only [Act.put, List.setIfInBounds_toArray, List.set_cons_zero, List.set_cons_succ]
              refine wpAnyT_take (i := 30) (v := ?_) (by simp only [List.getElem?_toArray, List.getElem?_cons_zero, List.getElem?_cons_succ]; rfl) (by kernel_rfl) (by kernel_rfl) (by kernel_rfl) (by kernel_rfl) (by kernel_rfl) (fun _ _ _ h => h) (Or.inl ⟨by rfl, ?_⟩) (by assumption) ?_
              rotate_left
              · intro w hSw; (try dsimp only at hSw); go_simp; try (with_reducible rfl)
              try simp only [Act.put, List.setIfInBounds_toArray, List.set_cons_zero, List.set_cons_succ]
              refine wpAnyT_take (i := 31) (v := ?_) (by simp only [List.getElem?_toArray, List.getElem?_cons_zero, List.getElem?_cons_succ]; rfl) (by kernel_rfl) (by kernel_rfl) (by kernel_rfl) (by kernel_rfl) (by kernel_rfl) (fun _ _ _ h => h) (Or.inl ⟨by rfl, ?_⟩) (by assumption) ?_
              rotate_left
              · intro w hSw; (try dsimp only at hSw); go_simp; try (with_reducible rfl)
              try simp only [Act.put, List.setIfInBounds_toArray, List.set_cons_zero, List.set_cons_succ]
              refine wpAnyT_ready (rs := [32]) (by kernel_rfl) (by simp) (AllReadyT.store (by simp only [List.getElem?_toArray, List.getElem?_cons_zero, List.getElem?_cons_succ]; rfl) (by simp) (fun K hK => ?_) AllReadyT.nil)
              go_simp
              refine hK.out _ _ ?_
              clear hK K
              try simp only [Act.put, List.setIfInBounds_toArray, List.set_cons_zero, List.set_cons_succ]
              refine wpAnyT_done (by kernel_rfl) ?_ _
              refine NoPanic.normal ?_
              gi_wp2
              have hDf : (w28.setCell ⟨w.heap.size, 0, none⟩ (.bool true)).heap[D]? = some (.deferred (some [])) := (Below.heap_setCell w28 ⟨w.heap.size, 0, none⟩ (.bool true) D (by have := HDl.out.2; show D ≠ w.heap.size; omega)).trans H28.out.2.2.2.2.2.2
              refine ⟨by simp, .inl ⟨_, _, rfl, run_takeDeferred hDf, ?_⟩⟩
              have hrf := (H28.out.2.2.2.2.1.set_ 0 (.bool true)).kc (kc_put (o' := .deferred none) hDf rfl)
              have crf := hrf.cell 0
              simp only [List.setIfInBounds_toArray, List.set_cons_zero, List.getElem?_toArray, List.getElem?_cons_zero] at crf
              refine ⟨.bool true, ?_, rfl, ?_⟩
              · simp [results, Try.results3, go_sem, crf]
              · exact (H28.out.2.2.2.2.2.1.setCell (p := ⟨w.heap.size, 0, none⟩) (Nat.le_refl _) _).trans (belowK_b (w := w) (Nat.le_refl _) _ D _ _ (by have := HDl.out.2; omega) hDf rfl rfl)

    · have hne : ((m2 : Int) != 16) = true := by simp; omega
      clear hc hf hDo hDl hbW hlW hrW hPW q0 q1 q4 q5 hD hxs
      gi_upto_region 18 with fail
      refine wpIn_wide.2 ?_
      refine wp_region_noPanic ?_
      refine wp_region_T (fun w' => w'.cell? ⟨w2.heap.size + 2, 0, none⟩ = some (.int .i64 (nw + 7 : Nat)) ∧ w'.cell? ⟨w2.heap.size, 0, none⟩ = some (.pointer (some ⟨g2, 0, none⟩)) ∧ w'.cell? ⟨g2, 0, none⟩ = some (.slice (some ⟨gk2, 0, none⟩) (nw + 7 : Nat) kc2)) [24] (by kernel_rfl) ?_ (fun hHeld => ?_)
      · exact ⟨c1, c2', c3⟩
      refine wpAnyT_take (i := 0) (v := ?_) (by simp only [List.getElem?_toArray, List.getElem?_cons_zero, List.getElem?_cons_succ]; rfl) (by kernel_rfl) (by kernel_rfl) (by kernel_rfl) (by kernel_rfl) (by kernel_rfl) (fun _ _ _ h => h) (Or.inl ⟨by rfl, ?_⟩) (by assumption) ?_
      rotate_left
      · intro w hSw; (try dsimp only at hSw); go_simp; try (with_reducible rfl)
      try simp only [Act.put, List.setIfInBounds_toArray, List.set_cons_zero, List.set_cons_succ]
      refine wpAnyT_take (i := 1) (v := ?_) (by simp only [List.getElem?_toArray, List.getElem?_cons_zero, List.getElem?_cons_succ]; rfl) (by kernel_rfl) (by kernel_rfl) (by kernel_rfl) (by kernel_rfl) (by kernel_rfl) (fun _ _ _ h => h) (Or.inl ⟨by rfl, ?_⟩) (by assumption) ?_
      rotate_left
      · intro w hSw; (try dsimp only at hSw); go_simp; try (with_reducible rfl)
      try simp only [Act.put, List.setIfInBounds_toArray, List.set_cons_zero, List.set_cons_succ]
      refine wpAnyT_take (i := 2) (v := ?_) (by simp only [List.getElem?_toArray, List.getElem?_cons_zero, List.getElem?_cons_succ]; rfl) (by kernel_rfl) (by kernel_rfl) (by kernel_rfl) (by kernel_rfl) (by kernel_rfl) (fun _ _ _ h => h) (Or.inl ⟨by rfl, ?_⟩) (by assumption) ?_
      rotate_left
      · intro w hSw; (try dsimp only at hSw); go_simp; try (with_reducible rfl)
      try simp only [Act.put, List.setIfInBounds_toArray, List.set_cons_zero, List.set_cons_succ]
      refine wpAnyT_take (i := 3) (v := ?_) (by simp only [List.getElem?_toArray, List.getElem?_cons_zero, List.getElem?_cons_succ]; rfl) (by kernel_rfl) (by kernel_rfl) (by kernel_rfl) (by kernel_rfl) (by kernel_rfl) (fun _ _ _ h => h) (Or.inl ⟨by rfl, ?_⟩) (by assumption) ?_
      rotate_left
      · intro w hSw; (try dsimp only at hSw); go_simp; try (with_reducible rfl)
      try simp only [Act.put, List.setIfInBounds_toArray, List.set_cons_zero, List.set_cons_succ]
      refine wpAnyT_take (i := 4) (v := ?_) (by simp only [List.getElem?_toArray, List.getElem?_cons_zero, List.getElem?_cons_succ]; rfl) (by kernel_rfl) (by kernel_rfl) (by kernel_rfl) (by kernel_rfl) (by kernel_rfl) (fun _ _ _ h => h) (Or.inl ⟨by rfl, ?_⟩) (by assumption) ?_
      rotate_left
      · intro w hSw; (try dsimp only at hSw); go_simp; try (with_reducible rfl)
      try simp only [Act.put, List.setIfInBounds_toArray, List.set_cons_zero, List.set_cons_succ]
      refine wpAnyT_take (i := 5) (v := ?_) (by simp only [List.getElem?_toArray, List.getElem?_cons_zero, List.getElem?_cons_succ]; rfl) (by kernel_rfl) (by kernel_rfl) (by kernel_rfl) (by kernel_rfl) (by kernel_rfl) (fun _ _ _ h => h) (Or.inl ⟨by rfl, ?_⟩) (by assumption) ?_
      rotate_left
      · intro w hSw; (try dsimp only at hSw); go_simp; try (with_reducible rfl)
      try simp only [Act.put, List.setIfInBounds_toArray, List.set_cons_zero, List.set_cons_succ]
      refine wpAnyT_take (i := 6) (v := ?_) (by simp only [List.getElem?_toArray, List.getElem?_cons_zero, List.getElem?_cons_succ]; rfl) (by kernel_rfl) (by kernel_rfl) (by kernel_rfl) (by kernel_rfl) (by kernel_rfl) (fun _ _ _ h => h) (Or.inl ⟨by rfl, ?_⟩) (by assumption) ?_
      rotate_left
      · intro w hSw; (try dsimp only at hSw); go_simp; try (with_reducible rfl)
      try simp only [Act.put, List.setIfInBounds_toArray, List.set_cons_zero, List.set_cons_succ]
      refine wpAnyT_take (i := 7) (v := ?_) (by simp only [List.getElem?_toArray, List.getElem?_cons_zero, List.getElem?_cons_succ]; rfl) (by kernel_rfl) (by kernel_rfl) (by kernel_rfl) (by kernel_rfl) (by kernel_rfl) (fun _ _ _ h => h) (Or.inl ⟨by rfl, ?_⟩) (by assumption) ?_
      rotate_left
      · intro w hSw; (try dsimp only at hSw); go_simp; try (with_reducible rfl)
      try simp only [Act.put, List.setIfInBounds_toArray, List.set_cons_zero, List.set_cons_succ]
      refine wpAnyT_take (i := 8) (v := ?_) (by simp only [List.getElem?_toArray, List.getElem?_cons_zero, List.getElem?_cons_succ]; rfl) (by kernel_rfl) (by kernel_rfl) (by kernel_rfl) (by kernel_rfl) (by kernel_rfl) (fun _ _ _ h => h) (Or.inl ⟨by rfl, ?_⟩) (by assumption) ?_
      rotate_left
      · intro w hSw; (try dsimp only at hSw); go_simp; try (with_reducible rfl)
      try simp only [Act.put, List.setIfInBounds_toArray, List.set_cons_zero, List.set_cons_succ]
      refine wpAnyT_take (i := 9) (v := ?_) (by simp only [List.getElem?_toArray, List.getElem?_cons_zero, List.getElem?_cons_succ]; rfl) (by kernel_rfl) (by kernel_rfl) (by kernel_rfl) (by kernel_rfl) (by kernel_rfl) (fun _ _ _ h => h) (Or.inl ⟨by rfl, ?_⟩) (by assumption) ?_
      rotate_left
      · intro w hSw; (try dsimp only at hSw); go_simp; try (with_reducible rfl)
      try simp only [Act.put, List.setIfInBounds_toArray, List.set_cons_zero, List.set_cons_succ]
      refine wpAnyT_take (i := 10) (v := ?_) (by simp only [List.getElem?_toArray, List.getElem?_cons_zero, List.getElem?_cons_succ]; rfl) (by kernel_rfl) (by kernel_rfl) (by kernel_rfl) (by kernel_rfl) (by kernel_rfl) (fun _ _ _ h => h) (Or.inl ⟨by rfl, ?_⟩) (by assumption) ?_
      rotate_left
      · intro w hSw; (try dsimp only at hSw); go_simp; try (with_reducible rfl)
      try simp only [Act.put, List.setIfInBounds_toArray, List.set_cons_zero, List.set_cons_succ]
      refine wpAnyT_take (i := 11) (v := ?_) (by simp only [List.getElem?_toArray, List.getElem?_cons_zero, List.getElem?_cons_succ]; rfl) (by kernel_rfl) (by kernel_rfl) (by kernel_rfl) (by kernel_rfl) (by kernel_rfl) (fun _ _ _ h => h) (Or.inl ⟨by rfl, ?_⟩) (by assumption) ?_
      rotate_left
      · intro w hSw; (try dsimp only at hSw); go_simp; try (with_reducible rfl)
      try simp only [Act.put, List.setIfInBounds_toArray, List.set_cons_zero, List.set_cons_succ]
      refine wpAnyT_take (i := 12) (v := ?_) (by simp only [List.getElem?_toArray, List.getElem?_cons_zero, List.getElem?_cons_succ]; rfl) (by kernel_rfl) (by kernel_rfl) (by kernel_rfl) (by kernel_rfl) (by kernel_rfl) (fun _ _ _ h => h) (Or.inl ⟨by rfl, ?_⟩) (by assumption) ?_
      rotate_left
      · intro w hSw; (try dsimp only at hSw); go_simp; try (with_reducible rfl)
      try simp only [Act.put, List.setIfInBounds_toArray, List.set_cons_zero, List.set_cons_succ]
      refine wpAnyT_ready (rs := [13]) (by kernel_rfl) (by simp) (AllReadyT.cons (by simp only [List.getElem?_toArray, List.getElem?_cons_zero, List.getElem?_cons_succ]; rfl) (fun K hK => ?_) AllReadyT.nil)
      go_simp
      go_at_call 18
      refine (enc_no ⟨g, 0, none⟩ A2 m2 c2 _ h16).mono ?_
      rintro e w18 ⟨rfl, hb18⟩
      have hb18 : Below W.heap.size W w18 := ⟨hb18.os, hb18.tape, hb18.output, hb18.size, hb18.block⟩
      have hr18 : Blk w18 w.heap.size 4 #[.bool false] := HD.out.2.1.below hb18 HD.out.2.1.lt
      have cr := hr18.cell 0
      simp only [List.getElem?_toArray, List.getElem?_cons_zero] at cr
      have fr := hr18.frozen 0
      have Hr18 := Lib.hid (And.intro hr18 (And.intro (HD.out.1.trans (hb18.mono HD.out.1.size)) ((hb18.block D HDl.out.1).trans HD.out.2.2.2)))
      have hC18 := And.intro ((hb18.cell (World.block_lt_of_cell? W _ c1)).trans c1) (And.intro ((hb18.cell (World.block_lt_of_cell? W _ c2')).trans c2') ((hb18.cell (World.block_lt_of_cell? W _ c3)).trans c3))
      clear hr18 hb18
      refine hK.out _ _ ?_ (fun hHeld => ?_)
      · exact hC18
      clear hK K
      try simp only [Act.put, List.setIfInBounds_toArray, List.set_cons_zero, List.set_cons_succ]
      refine wpAnyT_take (i := 14) (v := ?_) (by simp only [List.getElem?_toArray, List.getElem?_cons_zero, List.getElem?_cons_succ]; rfl) (by kernel_rfl) (by kernel_rfl) (by kernel_rfl) (by kernel_rfl) (by kernel_rfl) (fun _ _ _ h => h) (Or.inl ⟨by rfl, ?_⟩) (by assumption) ?_
      rotate_left
      · intro w hSw; (try dsimp only at hSw); go_simp; try (with_reducible rfl)
      try simp only [Act.put, List.setIfInBounds_toArray, List.set_cons_zero, List.set_cons_succ]
      refine wpAnyT_take (i := 15) (v := ?_) (by simp only [List.getElem?_toArray, List.getElem?_cons_zero, List.getElem?_cons_succ]; rfl) (by kernel_rfl) (by kernel_rfl) (by kernel_rfl) (by kernel_rfl) (by kernel_rfl) (fun _ _ _ h => h) (Or.inl ⟨by rfl, ?_⟩) (by assumption) ?_
      rotate_left
      · intro w hSw; (try dsimp only at hSw); go_simp; try (with_reducible rfl)
      try simp only [Act.put, List.setIfInBounds_toArray, List.set_cons_zero, List.set_cons_succ]
      refine wpAnyT_take (i := 16) (v := ?_) (by simp only [List.getElem?_toArray, List.getElem?_cons_zero, List.getElem?_cons_succ]; rfl) (by kernel_rfl) (by kernel_rfl) (by kernel_rfl) (by kernel_rfl) (by kernel_rfl) (fun _ _ _ h => h) (Or.inl ⟨by rfl, ?_⟩) (by assumption) ?_
      rotate_left
      · intro w hSw; (try dsimp only at hSw); go_simp; try (with_reducible rfl)
      try simp only [Act.put, List.setIfInBounds_toArray, List.set_cons_zero, List.set_cons_succ]
      refine wpAnyT_take (i := 17) (v := ?_) (by simp only [List.getElem?_toArray, List.getElem?_cons_zero, List.getElem?_cons_succ]; rfl) (by kernel_rfl) (by kernel_rfl) (by kernel_rfl) (by kernel_rfl) (by kernel_rfl) (fun _ _ _ h => h) (Or.inl ⟨by rfl, ?_⟩) (by assumption) ?_
      rotate_left
      · intro w hSw; (try dsimp only at hSw); go_simp; try (with_reducible rfl)
      try simp only [Act.put, List.setIfInBounds_toArray, List.set_cons_zero, List.set_cons_succ]
      refine wpAnyT_take (i := 18) (v := ?_) (by simp only [List.getElem?_toArray, List.getElem?_cons_zero, List.getElem?_cons_succ]; rfl) (by kernel_rfl) (by kernel_rfl) (by kernel_rfl) (by kernel_rfl) (by kernel_rfl) (fun _ _ _ h => h) (Or.inl ⟨by rfl, ?_⟩) (by assumption) ?_
      rotate_left
      · intro w hSw; (try dsimp only at hSw); go_simp; try (with_reducible rfl)
      try simp only [Act.put, List.setIfInBounds_toArray, List.set_cons_zero, List.set_cons_succ]
      refine wpAnyT_take (i := 19) (v := ?_) (by simp only [List.getElem?_toArray, List.getElem?_cons_zero, List.getElem?_cons_succ]; rfl) (by kernel_rfl) (by kernel_rfl) (by kernel_rfl) (by kernel_rfl) (by kernel_rfl) (fun _ _ _ h => h) (Or.inl ⟨by rfl, ?_⟩) (by assumption) ?_
      rotate_left
      · intro w hSw; (try dsimp only at hSw); go_simp; try (with_reducible rfl)
      try simp only [Act.put, List.setIfInBounds_toArray, List.set_cons_zero, List.set_cons_succ]
      refine wpAnyT_ready (rs := [20]) (by kernel_rfl) (by simp) (AllReadyT.cons (by simp only [List.getElem?_toArray, List.getElem?_cons_zero, List.getElem?_cons_succ]; rfl) (fun K hK => ?_) AllReadyT.nil)
      go_simp
      go_at_call 19
      refine (dec_no ⟨g, 0, none⟩ A2 m2 c2 _ h16).mono ?_
      rintro e w19 ⟨rfl, rfl⟩
      refine hK.out _ _ ?_ (fun hHeld => ?_)
      · exact hHeld
      clear hK K
      try simp only [Act.put, List.setIfInBounds_toArray, List.set_cons_zero, List.set_cons_succ]
      refine wpAnyT_take (i := 21) (v := ?_) (by simp only [List.getElem?_toArray, List.getElem?_cons_zero, List.getElem?_cons_succ]; rfl) (by kernel_rfl) (by kernel_rfl) (by kernel_rfl) (by kernel_rfl) (by kernel_rfl) (fun _ _ _ h => h) (Or.inl ⟨by rfl, ?_⟩) (by assumption) ?_
      rotate_left
      · intro w hSw; (try dsimp only at hSw); go_simp; try (with_reducible rfl)
      try simp only [Act.put, List.setIfInBounds_toArray, List.set_cons_zero, List.set_cons_succ]
      refine wpAnyT_take (i := 22) (v := ?_) (by simp only [List.getElem?_toArray, List.getElem?_cons_zero, List.getElem?_cons_succ]; rfl) (by kernel_rfl) (by kernel_rfl) (by kernel_rfl) (by kernel_rfl) (by kernel_rfl) (fun _ _ _ h => h) (Or.inl ⟨by rfl, ?_⟩) (by assumption) ?_
      rotate_left
      · intro w hSw; (try dsimp only at hSw); go_simp; try (with_reducible rfl)
      try simp only [Act.put, List.setIfInBounds_toArray, List.set_cons_zero, List.set_cons_succ]
      refine wpAnyT_take (i := 23) (v := ?_) (by simp only [List.getElem?_toArray, List.getElem?_cons_zero, List.getElem?_cons_succ]; rfl) (by kernel_rfl) (by kernel_rfl) (by kernel_rfl) (by kernel_rfl) (by kernel_rfl) (fun _ _ _ h => h) (Or.inl ⟨by rfl, ?_⟩) (by assumption) ?_
      rotate_left
      · intro w hSw; (try dsimp only at hSw); go_simp; try (with_reducible rfl)
      try simp only [Act.put, List.setIfInBounds_toArray, List.set_cons_zero, List.set_cons_succ]
      refine wpAnyT_ready (rs := [24]) (by kernel_rfl) (by simp) (AllReadyT.store (by simp only [List.getElem?_toArray, List.getElem?_cons_zero, List.getElem?_cons_succ]; rfl) (by simp) (fun K hK => ?_) AllReadyT.nil)
      go_simp
      refine hK.out _ _ ?_
      clear hK K
      try simp only [Act.put, List.setIfInBounds_toArray, List.set_cons_zero, List.set_cons_succ]
      refine wpAnyT_done (by kernel_rfl) ?_ _
      refine NoPanic.normal ?_
      gi_wp2
      have hDf : (w18.setCell ⟨w.heap.size, 0, none⟩ (.bool true)).heap[D]? = some (.deferred (some [])) := (Below.heap_setCell w18 ⟨w.heap.size, 0, none⟩ (.bool true) D (by have := HDl.out.2; show D ≠ w.heap.size; omega)).trans Hr18.out.2.2
      refine ⟨by simp, .inl ⟨_, _, rfl, run_takeDeferred hDf, ?_⟩⟩
      have hrf := (Hr18.out.1.set_ 0 (.bool true)).kc (kc_put (o' := .deferred none) hDf rfl)
      have crf := hrf.cell 0
      simp only [List.setIfInBounds_toArray, List.set_cons_zero, List.getElem?_toArray, List.getElem?_cons_zero] at crf
      refine ⟨.bool true, ?_, rfl, ?_⟩
      · simp [results, Try.results3, go_sem, crf]
      · exact (Hr18.out.2.1.setCell (p := ⟨w.heap.size, 0, none⟩) (Nat.le_refl _) _).trans (belowK_b (w := w) (Nat.le_refl _) _ D _ _ (by have := HDl.out.2; omega) hDf rfl rfl)

  case stop =>
    rintro D c pre W _ _ h _
    exact h.elim

theorem block {w : World} (A A2 : Option Addr) (n c n2 c2 : Nat) (key l : List UInt8) (hK : Bytes w A n key) (hB : Bytes w A2 n2 l) (hc : n ≤ c) (hc2 : n2 ≤ c2) (_ : c ≤ 9223372036854775807) (_ : c2 ≤ 9223372036854775807) : Calls Try.prog 3 #[.slice A n c, .slice A2 n2 c2] w (LawOk w) := by
  by_cases h : n = 16 ∨ n = 24 ∨ n = 32
  · obtain ⟨nw, hnw, rfl⟩ : ∃ nw, (nw = 4 ∨ nw = 6 ∨ nw = 8) ∧ n = 4 * nw := by
      rcases h with rfl | rfl | rfl
      · exact ⟨4, .inl rfl, rfl⟩
      · exact ⟨6, .inr (.inl rfl), rfl⟩
      · exact ⟨8, .inr (.inr rfl), rfl⟩
    exact block_some A A2 c n2 c2 nw key l hnw hK hB hc hc2
  · exact block_nokey A A2 n c n2 c2 key l hK hB hc hc2 ⟨fun e => h (.inl e), fun e => h (.inr (.inl e)), fun e => h (.inr (.inr e))⟩
end Go.Proofs.Ytmilanicedjhmaa
