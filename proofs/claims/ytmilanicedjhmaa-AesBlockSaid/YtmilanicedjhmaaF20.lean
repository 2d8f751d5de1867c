/- Contracts: the example that the statements begin with. No condition. -/
import Derived.Test.YtmilanicedjhmaaF19
import Derived.Test.YtmilanicedjhmaaP9
import Derived.Lib.SlBytesConst
namespace Go.Proofs.Ytmilanicedjhmaa
open Go.RowKit Go.Shelf
set_option linter.unusedSimpArgs false
attribute [local go_sem] Oper.semAt_some KeyAt.enc

def bstr (l : List UInt8) : ByteArray := ⟨l.toArray⟩
theorem bstr_nums (l : List UInt8) : strOfNums (l.map fun x => (x.toNat : Int)) = bstr l := by
  simp [strOfNums, bstr, Function.comp_def]
theorem conv_str {w : World} {A : Option Addr} {n c : Nat} {l : List UInt8} (h : Bytes w A n l) (hA : n = 0 → A = none) : (convert 22 9 (.slice A n c)).run Try.prog w = .ok (.string (bstr l)) w := by
  rcases Nat.eq_zero_or_pos n with rfl | h0
  · have hl : l = [] := List.eq_nil_of_length_eq_zero h.1
    subst hl
    obtain rfl := hA rfl
    exact run_convert_bytes_nil w 22 5 Try.underlying22 Try.underlying5 0 c 9 rfl
  · obtain ⟨b, o, rfl, hr⟩ := h.2 h0
    rw [← bstr_nums]
    refine run_convert_bytes_arg w 22 5 Try.underlying22 Try.underlying5 b o n c _ (by simp [h.1]) (fun i hi => ?_) 9 rfl
    have hl : i < l.length := by rw [h.1]; exact hi
    rw [hr i l[i] (List.getElem?_eq_getElem hl)]
    simp [hl]
theorem at_row {w : World} {g : Nat} {n c : Nat} {base : Nat} {l : List UInt8} (h : w.ownsRow base 5 1 (.slice (some ⟨g, 0, none⟩) n c) n (l.map B8)) : Bytes w (some ⟨g, 0, none⟩) n l := Bytes.of_own h

set_option maxRecDepth 100000 in
set_option maxHeartbeats 4000000 in
theorem begun5 (w : World) : Calls Try.prog 14 #[] w fun e w' => e = .returned (.bool true) ∧ Below w.heap.size w w' := by
  have hq := fun (w : World) (f : Nat) (cap : Array Value) => (show (binOp .eql 31 (.func (.func f) #[] cap) .nilFunc).run Try.prog w = .ok (.bool false) w by kernel_rfl)
  have kc := fun (w : World) (C : Array Value) (n c : Nat) => Lib.run_convert_bytes_const (P := Try.prog) w 22 5 C n c Try.underlying22 Try.underlying5
  refine (callsIn_wide (n := 5)).1 ?_
  refine callsIn_of_wp_marks Try.func14 rfl trivial ?_ rfl
  simp only [Try.ntmps14, List.size_toArray, List.length_nil, Nat.reduceSub, Array.replicate_succ, Array.replicate_zero, List.push_toArray, List.append_toArray, List.nil_append, List.cons_append]
  have hk1 : Blk (w.alloc (.cells #[Value.int IntKind.u8 0, Value.int IntKind.u8 1, Value.int IntKind.u8 2, Value.int IntKind.u8 3, Value.int IntKind.u8 4, Value.int IntKind.u8 5, Value.int IntKind.u8 6, Value.int IntKind.u8 7, Value.int IntKind.u8 8, Value.int IntKind.u8 9, Value.int IntKind.u8 10, Value.int IntKind.u8 11, Value.int IntKind.u8 12, Value.int IntKind.u8 13, Value.int IntKind.u8 14, Value.int IntKind.u8 15] 5)) w.heap.size 5 (brow exKey) := Blk.new w 5 _
  have hnew : Calls Try.prog 16 #[.slice (some ⟨w.heap.size, 0, none⟩) 16 16] (w.alloc (.cells #[Value.int IntKind.u8 0, Value.int IntKind.u8 1, Value.int IntKind.u8 2, Value.int IntKind.u8 3, Value.int IntKind.u8 4, Value.int IntKind.u8 5, Value.int IntKind.u8 6, Value.int IntKind.u8 7, Value.int IntKind.u8 8, Value.int IntKind.u8 9, Value.int IntKind.u8 10, Value.int IntKind.u8 11, Value.int IntKind.u8 12, Value.int IntKind.u8 13, Value.int IntKind.u8 14, Value.int IntKind.u8 15] 5)) (NewC (w.alloc (.cells #[Value.int IntKind.u8 0, Value.int IntKind.u8 1, Value.int IntKind.u8 2, Value.int IntKind.u8 3, Value.int IntKind.u8 4, Value.int IntKind.u8 5, Value.int IntKind.u8 6, Value.int IntKind.u8 7, Value.int IntKind.u8 8, Value.int IntKind.u8 9, Value.int IntKind.u8 10, Value.int IntKind.u8 11, Value.int IntKind.u8 12, Value.int IntKind.u8 13, Value.int IntKind.u8 14, Value.int IntKind.u8 15] 5)) 4 exKey) := new_some _ 16 4 exKey _ (Or.inl rfl) (brow_bytes hk1)
  have hlw1 : Below w.heap.size w (w.alloc (.cells #[Value.int IntKind.u8 0, Value.int IntKind.u8 1, Value.int IntKind.u8 2, Value.int IntKind.u8 3, Value.int IntKind.u8 4, Value.int IntKind.u8 5, Value.int IntKind.u8 6, Value.int IntKind.u8 7, Value.int IntKind.u8 8, Value.int IntKind.u8 9, Value.int IntKind.u8 10, Value.int IntKind.u8 11, Value.int IntKind.u8 12, Value.int IntKind.u8 13, Value.int IntKind.u8 14, Value.int IntKind.u8 15] 5)) := (Below.refl _ w).alloc (Nat.le_refl _) _
  have H1 := Lib.hid (And.intro hk1 hlw1)
  clear hk1 hlw1
  gi_wp2_with (first
    | (refine ⟨trivial, ?_⟩; gi_at_call 16; refine (callsIn_wide.2 hnew).mono ?_; rintro e w2 ⟨g, gk, rfl, hg, hgk, hP, hb2⟩
       have hk2 := H1.out.1.below hb2 H1.out.1.lt
       have hl2 : Below w.heap.size w w2 := H1.out.2.trans (hb2.mono H1.out.2.size)
       have hP3 : PC (w2.alloc (.cells #[Value.int IntKind.u8 0, Value.int IntKind.u8 17, Value.int IntKind.u8 34, Value.int IntKind.u8 51, Value.int IntKind.u8 68, Value.int IntKind.u8 85, Value.int IntKind.u8 102, Value.int IntKind.u8 119, Value.int IntKind.u8 136, Value.int IntKind.u8 153, Value.int IntKind.u8 170, Value.int IntKind.u8 187, Value.int IntKind.u8 204, Value.int IntKind.u8 221, Value.int IntKind.u8 238, Value.int IntKind.u8 255] 5 (16, 17))) g gk 4 exKey := hP.below ((Below.refl _ w2).alloc (Nat.le_refl _) _)
       have hi3 : At (w2.alloc (.cells #[Value.int IntKind.u8 0, Value.int IntKind.u8 17, Value.int IntKind.u8 34, Value.int IntKind.u8 51, Value.int IntKind.u8 68, Value.int IntKind.u8 85, Value.int IntKind.u8 102, Value.int IntKind.u8 119, Value.int IntKind.u8 136, Value.int IntKind.u8 153, Value.int IntKind.u8 170, Value.int IntKind.u8 187, Value.int IntKind.u8 204, Value.int IntKind.u8 221, Value.int IntKind.u8 238, Value.int IntKind.u8 255] 5 (16, 17))) (some ⟨w2.heap.size, 0, none⟩) 16 (fun j => exIn.getD j 0) := fun _ => ⟨w2.heap.size, 0, rfl, fun j hj => by
         rw [Nat.zero_add, cell_of_row _ _ _ _ _ _ (heap_alloc_new w2 _)]
         exact brow_tab 16 (fun j => exIn.getD j 0) hj⟩
       have henc := enc_some hP3 (by omega) (some ⟨w2.heap.size, 0, none⟩) 16 (fun j => exIn.getD j 0) hi3
       have H2 := Lib.hid (And.intro (hk2.alloc (.cells #[Value.int IntKind.u8 0, Value.int IntKind.u8 17, Value.int IntKind.u8 34, Value.int IntKind.u8 51, Value.int IntKind.u8 68, Value.int IntKind.u8 85, Value.int IntKind.u8 102, Value.int IntKind.u8 119, Value.int IntKind.u8 136, Value.int IntKind.u8 153, Value.int IntKind.u8 170, Value.int IntKind.u8 187, Value.int IntKind.u8 204, Value.int IntKind.u8 221, Value.int IntKind.u8 238, Value.int IntKind.u8 255] 5 (16, 17))) (And.intro hP3 (hl2.alloc hl2.size (.cells #[Value.int IntKind.u8 0, Value.int IntKind.u8 17, Value.int IntKind.u8 34, Value.int IntKind.u8 51, Value.int IntKind.u8 68, Value.int IntKind.u8 85, Value.int IntKind.u8 102, Value.int IntKind.u8 119, Value.int IntKind.u8 136, Value.int IntKind.u8 153, Value.int IntKind.u8 170, Value.int IntKind.u8 187, Value.int IntKind.u8 204, Value.int IntKind.u8 221, Value.int IntKind.u8 238, Value.int IntKind.u8 255] 5 (16, 17)))))
       clear hnew hk2 hl2 hP3 hi3 hP hb2)
    | (refine ⟨trivial, ?_⟩; gi_at_call 18; refine (callsIn_wide.2 henc).mono ?_; rintro e w3 ⟨be, rfl, hbe, he3, hb3⟩
       rw [ex_enc] at he3
       have hk3 := H2.out.1.below hb3 H2.out.1.lt
       have hP3 := PC.below H2.out.2.1 hb3
       have hl3 : Below w.heap.size w w3 := H2.out.2.2.trans (hb3.mono H2.out.2.2.size)
       have H3 := Lib.hid (And.intro hk3 (And.intro hP3 (And.intro he3 hl3)))
       clear henc hk3 hP3 he3 hl3 hb3)
    | (refine ⟨trivial, ?_⟩; gi_at_call 20; refine (callsIn_wide.2 (keys_any _ _)).mono ?_; rintro e w5 ⟨rfl, rfl⟩))
  have hgl : g < w3.heap.size ∧ gk < w3.heap.size := by
    obtain ⟨kc, h0, h1, h2⟩ := H3.out.2.1
    exact ⟨h1.lt, World.block_lt_of_cell? w3 _ (h2 0 0 (by omega) (by omega))⟩
  obtain ⟨Wr, hWr⟩ : ∃ Wr : World, Wr = (w3.alloc (Obj.cells #[Value.pointer (some { block := g, off := 0 })] 25)).alloc (Obj.cells #[Value.int IntKind.i64 0] 3) := ⟨_, rfl⟩
  have hs : Wr.heap.size = w3.heap.size + 2 := by rw [hWr]; simp
  have hb3r : Below w3.heap.size w3 Wr := by rw [hWr]; exact ((Below.refl _ w3).alloc (Nat.le_refl _) _).alloc (by simp) _
  have hKb : Blk Wr w3.heap.size 25 #[.pointer (some ⟨g, 0, none⟩)] := by rw [hWr]; exact heap_alloc2_old w3 _ _
  have hCb : Blk Wr (w3.heap.size + 1) 3 #[.int .i64 0] := by rw [hWr]; exact heap_alloc2_new w3 _ _
  have hPr : PC Wr g gk 4 exKey := PC.below H3.out.2.1 hb3r
  have Hr := Lib.hid hb3r
  rw [← hWr]
  clear hWr hb3r kc hq
  refine wpIn_rangeFunc_X rfl (by omega) (gf := 51) (lb := #[.pointer (some ⟨w3.heap.size, 0, none⟩)]) rfl trivial enters51 (keys_seq (by omega) hKb hPr (by omega)) (fun h k => Fr.trans h k)
    (fun W l o o' hl h hc _ => fr_put (fun k o hn => by
      rcases Classical.em (k < l) with h | h
      · exact h
      · exact (hn ⟨by omega, by omega, by omega⟩).elim))
    (fun pre x W l o o' hl h hc _ hG => ⟨hG.1, hG.2.1.kc (kc_put h hc), hG.2.2⟩)
    (fun A B k o h hk ho _ _ => (h.block k (lt_of_heap ho)).trans ho) (fun o o' => ((Below.refl _ Wr).alloc (Nat.le_refl _) _).alloc (by simp) _) (fun _ => rfl)
    (fun pre W => Blk W (w3.heap.size + 1) 3 #[.int .i64 (pre.length : Int)] ∧ Fr (OnB (w3.heap.size + 1)) Wr W) (fun _ _ _ => False)
    (fun s W W' row hi hg hr => ⟨hi.1.kc (kc_grown hg (fun r e => (hr r e).2)), hi.2.grown hg (fun k e => (hr k e).1)⟩)
    (fun _ _ _ _ _ hs _ _ => hs) (fun s A B hi h => ⟨hi.1.kc (grows_kc h), hi.2.trans (Fr.of_below h)⟩) (fun _ _ _ _ h _ => h) ⟨hCb, Fr.refl _ _⟩ ?a1 ?assign ?body ?done ?stop
  case assign =>
    intro l x W K hK
    gi_wp2
    exact hK
  case body =>
    rintro l pre ⟨xi, xa, xc⟩ W ⟨hc, hf⟩ - hlen
    have c0 : W.cell? ⟨w3.heap.size + 1, 0, none⟩ = some (.int .i64 (pre.length : Int)) := hc.cell 0
    have f0 := hc.frozen 0
    have hl2 : (pre.length : Int) < 11 := by omega
    have Hc := Lib.hid (And.intro hc hf)
    clear hc hf hlen
    gi_wp2
    have hF : Fr (OnB (w3.heap.size + 1)) W (W.setCell ⟨w3.heap.size + 1, 0, none⟩ (.int .i64 ((pre.length : Int) + 1))) := (Fr.refl _ W).setIn (p := ⟨w3.heap.size + 1, 0, none⟩) (fun _ _ => rfl) _
    refine ⟨KeepsOthers.setCell _ _ _, hF.mono (fun k o h => ⟨by have h : k = w3.heap.size + 1 := h; omega, by have h : k = w3.heap.size + 1 := h; omega, by have h : k = w3.heap.size + 1 := h; omega⟩), ?_, Hc.out.2.trans hF⟩
    have := Hc.out.1.set_ 0 (.int .i64 ((pre.length : Int) + 1))
    simpa using this
  case done =>
    rintro D xs W hD hxs ⟨hc, hf⟩ hDo
    have hxs : xs.length = 11 := hxs
    rw [hxs] at hc
    have hDl := lt_of_heap hDo
    have c0 : W.cell? ⟨w3.heap.size + 1, 0, none⟩ = some (.int .i64 11) := hc.cell 0
    obtain ⟨hk3, hP3, he3, hl3⟩ := H3.out
    have keep : ∀ k o, k < w3.heap.size → w3.heap[k]? = some o → W.heap[k]? = some o := fun k o hk ho => hf.block k o ((Hr.out.block k hk).trans ho) (fun e => by have e : k = w3.heap.size + 1 := e; omega)
    have hkW : Blk W w.heap.size 5 (brow exKey) := keep _ _ hk3.lt hk3
    have heW : Blk W be 65 (brow exOut) := keep _ _ he3.lt he3
    have hlW : Below w.heap.size w W := by
      have h1 : Below w.heap.size w Wr := hl3.trans (Hr.out.mono hl3.size)
      have h2 := hf
      exact below_new h1 hf (by have := hl3.size; omega) h1.size
    have hPW : PC W g gk 4 exKey := PC.fr hPr hf (fun _ e => by have e : g = w3.heap.size + 1 := e; omega) (fun _ e => by have e : gk = w3.heap.size + 1 := e; omega)
    have hcs := conv_str (c := 16) (brow_bytes heW) (fun e => by cases e)
    have heq : (bstr exOut).toList = [105, 196, 224, 216, 106, 123, 4, 48, 216, 205, 183, 128, 112, 180, 197, 90] := by decide +kernel
    have hax : At W (some ⟨w.heap.size, 0, none⟩) 16 (fun j => exKey.getD j 0) := At.of_bytes (brow_bytes hkW) (by decide)
    have ht := times_any' (some ⟨w.heap.size, 0, none⟩) (some ⟨w.heap.size, 0, none⟩) 16 16 _ _ hax hax (by omega) (by omega)
    have HW := Lib.hid (And.intro hkW (And.intro heW (And.intro hlW hPW)))
    clear hc hf hk3 hP3 he3 hl3 keep hkW heW hlW hPW hax hxs
    have hcs : (convert 22 9 (.slice (some ⟨be, 0, none⟩) 16 16)).run Try.prog W = .ok (.string (bstr exOut)) W := hcs
    gi_wp2_with (first
      | (refine ⟨trivial, ?_⟩; gi_at_call 23; refine (callsIn_wide.2 ht).mono ?_; rintro e w7 ⟨v7, rfl, ho7, hb7⟩
         obtain ⟨g7, c7, rfl, -, -, -⟩ := own_some ho7 (by omega)
         have hD7 : w7.heap[D]? = some (.deferred (some [])) := (hb7.block D hDl).trans hDo
         obtain ⟨hkW, heW, hlW, hPW⟩ := HW.out
         have hkW7 := hkW.below hb7 hkW.lt
         have hlW7 : Below w.heap.size w w7 := hlW.trans (hb7.mono hlW.size)
         have hg := ghash_any (w := w7) (some ⟨w.heap.size, 0, none⟩) none 16 0 0 (fun j => exKey.getD j 0) [] (At.of_bytes (brow_bytes hkW7) (by decide)) (by omega) (Bytes.nil _ _) (by omega) (by omega)
         have HW7 := Lib.hid (And.intro (heW.below hb7 heW.lt) (And.intro hlW7 (And.intro (PC.below hPW hb7) hD7)))
         clear hkW heW hlW hPW hkW7 hlW7 hD7 ht ho7 hb7 hcs heq)
      | (refine ⟨trivial, ?_⟩; gi_at_call 24; refine (callsIn_wide.2 hg).mono ?_; rintro e w8 ⟨v8, rfl, ho8, hb8⟩
         obtain ⟨g8, c8, rfl, -, -, -⟩ := own_some ho8 (by omega)
         obtain ⟨heW, hlW, hPW, hD7⟩ := HW7.out
         have hD8 : w8.heap[D]? = some (.deferred (some [])) := (hb8.block D (lt_of_heap hD7)).trans hD7
         have hlW8 : Below w.heap.size w w8 := hlW.trans (hb8.mono hlW.size)
         have hd := dec_some (PC.below hPW hb8) (by omega) (some ⟨be, 0, none⟩) 16 (fun j => exOut.getD j 0) (At.of_bytes (brow_bytes (heW.below hb8 heW.lt)) (by decide))
         have HW8 := Lib.hid (And.intro hlW8 hD8)
         clear heW hlW hPW hD7 hD8 hlW8 hg ho8 hb8)
      | (refine ⟨trivial, ?_⟩; gi_at_call 19; refine (callsIn_wide.2 hd).mono ?_; rintro e w9 ⟨b9, rfl, hb9, -, hbl9⟩))
    have hlz := HW8.out.1.size
    have hD9 : w9.heap[D]? = some (.deferred (some [])) := (hbl9.block D (lt_of_heap HW8.out.2)).trans HW8.out.2
    refine ⟨by simp, .inl ⟨_, _, rfl, run_takeDeferred hD9, ?_⟩⟩
    refine ⟨_, results_tmp rfl _ _ _, rfl, ?_⟩
    have hl9 : Below w.heap.size w w9 := HW8.out.1.trans (hbl9.mono hlz)
    exact hl9.trans (belowK_b (w := w) (Nat.le_refl _) w9 D _ _ (by have := H3.out.2.2.2.size; omega) hD9 rfl rfl)
  case stop =>
    rintro D c pre W _ _ h _
    exact h.elim
end Go.Proofs.Ytmilanicedjhmaa
