/- What is shown of an operation, or of a region that draws its order, outside of rounds, in a round of a range over a function. No condition. -/
import Derived.Test.YtmilanicedjhmaaG1
import Derived.Test.YtmilanicedjhmaaG2
import Derived.Test.YtmilanicedjhmaaF3
import Derived.Deep.MidRow
namespace Go.Proofs.Ytmilanicedjhmaa
open Go.RowKit

def noDefer (o : Oper) : Bool := match o.op with | .defer _ => false | _ => true
theorem noDefer_ne {o : Oper} (h : noDefer o = true) : ∀ c, o.op ≠ .defer c := fun c e => by
  unfold noDefer at h
  rw [e] at h
  cases h
section
variable {n : Nat} {P : Program} {ops : Array Oper} {Q : Exit → Act → World → Prop} {C : World → Prop} {ss : List Nat}
theorem calls_round (l : Nat) {f : FuncId} {args : Array Value} {w : World} {R : Ending → World → Prop} (h : Calls P f args w R) : CallsIn (Fence.wide.inRound l) n P f args w R := (callsIn_wide.2 h).inRound l
theorem oper_round (l : Nat) {o : Oper} (hd : noDefer o = true) {a : Act} {w : World} {K : Act → World → Prop} (h : o.wp P a w K Q) : o.wpIn (Fence.wide.inRound l) n P a w K Q := by
  refine ⟨fun _ _ => trivial, ?_⟩
  rw [Oper.semAt_eq _ _ _ (noDefer_ne hd)]
  unfold Oper.wp at h
  generalize (execOp a.eval o).run P w = r at h ⊢
  cases r with
  | ok x w' =>
    cases x with
    | value v => exact h
    | skip => exact h
    | defer d => exact h
    | enter f args => exact ⟨fun hh => by simp [Fence.wide, Fence.inRound] at hh, (calls_round l h).mono fun e w'' he => by cases e <;> exact he⟩
    | row row args => exact ⟨fun hh => by simp [Fence.wide, Fence.inRound] at hh, fun c cs _ => let ⟨v, w', r, s⟩ := h c cs; ⟨v, w', r, stepsIn_wide.2 s⟩⟩
    | _ => exact h.elim
  | halt x w' =>
    cases x with
    | panic v => exact h
    | _ => exact h.elim
theorem oper_wide {o : Oper} {a : Act} {w : World} {K : Act → World → Prop} (h : o.wp P a w K Q) : o.wpIn Fence.wide n P a w K Q := by
  refine ⟨fun _ _ => trivial, ?_⟩
  rw [show Fence.wide.round = none from rfl, Oper.semAt_none]
  unfold Oper.wp at h
  generalize (execOp a.eval o).run P w = r at h ⊢
  cases r with
  | ok x w' =>
    cases x with
    | value v => exact h
    | skip => exact h
    | defer d => exact h
    | enter f args => exact ⟨fun hh => by simp [Fence.wide] at hh, (callsIn_wide.2 h).mono fun e w'' he => by cases e <;> exact he⟩
    | row row args => exact ⟨fun hh => by simp [Fence.wide] at hh, fun c cs _ => let ⟨v, w', r, s⟩ := h c cs; ⟨v, w', r, stepsIn_wide.2 s⟩⟩
    | _ => exact h.elim
  | halt x w' =>
    cases x with
    | panic v => exact h
    | _ => exact h.elim
/-- Q, but 'False' at a panic and where the model ends. -/
def NoOut (Q : Exit → Act → World → Prop) : Exit → Act → World → Prop
  | .panic _, _, _ => False
  | .outgrown, _, _ => False
  | e, a, w => Q e a w
theorem NoOut.normal {a : Act} {w : World} (h : Q .normal a w) : NoOut Q .normal a w := h
theorem NoOut.imp : ∀ (e : Exit) (a : Act) (w : World), NoOut Q e a w → Q e a w := fun e a w h => by
  cases e <;> first | exact h | exact (h : False).elim
theorem any_round (l : Nat) {md : Region.Mode} (hd : ∀ (i : Nat) (o : Oper), ops[i]? = some o → noDefer o = true) :
    ∀ (fuel : Nat) (listed : Array Bool) (a : Act) (w : World), wpAny P md ops (NoOut Q) fuel listed a w → wpAnyIn (Fence.wide.inRound l) n P md ops (NoOut Q) fuel listed a w
  | 0, _, _, _, h => h
  | fuel + 1, _, _, _, h => ⟨h.1, fun i hi => by
    have h2 := h.2 i hi
    unfold wpOp at h2
    unfold wpOpIn
    split at h2
    · rename_i ho
      simp only [ho]
      exact any_round l hd fuel _ _ _ h2
    · rename_i o ho
      simp only [ho]
      split at h2
      · rename_i hw
        rw [if_pos hw]
        rcases h2 with h2 | ⟨_, a, w, h2⟩
        · exact Oper.wpIn_mono (fun a w => any_round l hd fuel _ a w) (oper_round l (hd i o ho) h2)
        · exact h2.elim
      · rename_i hw
        rw [if_neg hw]
        exact ⟨fun _ _ => trivial, any_round l hd fuel _ _ _ h2⟩⟩
/-- The beginning, in a round. -/
theorem wp_region_T_round (C : World → Prop) (ss : List Nat) {l id : Nat} {l0 : List Oper} {a : Act} {w : World} (hm : P.follows .mixedOrders = true) (hd : l0.all noDefer = true) (hS : C w.drew)
    (h : C w.drew → wpAnyT P .any l0.toArray (NoOut Q) C ss l0.toArray.size (Array.replicate l0.toArray.size false) a w.drew) : (Code.region id l0.toArray true).wpIn (Fence.wide.inRound l) n P Q a w :=
  wpIn_mono (wpIn_region_any hm (any_round l (fun i o ho => List.all_eq_true.1 hd o (List.mem_of_getElem? (by simpa using ho))) _ _ _ _ (wpAny_of_T _ _ _ _ (h hS)))) NoOut.imp
theorem wpListIn_round_of {l : Nat} {rest : List Oper} {o : Oper} {a : Act} {w : World} (hgd : o.guard = none) (hd : noDefer o = true) (h : ∀ K : Act → World → Prop, (∀ a w, wpListIn (Fence.wide.inRound l) n P ops Q rest a w → K a w) → o.wp P a w K Q) :
    wpListIn (Fence.wide.inRound l) n P ops Q (o :: rest) a w := wpListIn_plain hgd fun K hK => oper_round l hd (h K hK)
theorem wpListIn_load_round {l : Nat} {rest : List Oper} {o : Oper} {a : Act} {w : World} (hgd : o.guard = none) (ty : TypeId) (x : Operand) (ho : o.op = .load ty x)
    (b o0 : Nat) (hx : a.eval x = .pointer (some ⟨b, o0, none⟩)) (cs : List Value) (d : TypeDesc) (hc : w.rangeAt b o0 cs)
    (hu : P.underlying ty = some d) (hd : d.isRow = true) (hi : (P.info? ty).map (·.size) = some cs.length)
    (h : wpListIn (Fence.wide.inRound l) n P ops Q rest (a.put o.dst (.agg cs.toArray)) w) : wpListIn (Fence.wide.inRound l) n P ops Q (o :: rest) a w :=
  wpListIn_round_of hgd (by unfold noDefer; rw [ho]) fun _ hK => wp_load_mid ty x ho b o0 hx cs d hc hu hd hi (hK _ _ h)
theorem wpListIn_store_round {l : Nat} {rest : List Oper} {o : Oper} {a : Act} {w : World} (hgd : o.guard = none) (ty : TypeId) (x y : Operand) (ho : o.op = .store ty x y)
    (b o0 : Nat) (cells : Array Value) (hx : a.eval x = .pointer (some ⟨b, o0, none⟩)) (hy : a.eval y = .agg cells)
    (ht : w.there b o0 cells.size) (hi : (P.info? ty).map (·.size) = some cells.size) (h1 : cells.all (·.oneCell') = true)
    (h : ∀ w', w' = w.setCells b o0 cells.toList → wpListIn (Fence.wide.inRound l) n P ops Q rest (a.put o.dst undef) w') : wpListIn (Fence.wide.inRound l) n P ops Q (o :: rest) a w :=
  wpListIn_round_of hgd (by unfold noDefer; rw [ho]) fun _ hK => wp_store_mid ty x y ho b o0 cells hx hy ht hi h1 (hK _ _ (h _ rfl))
theorem wpListIn_load_wide {rest : List Oper} {o : Oper} {a : Act} {w : World} (hgd : o.guard = none) (ty : TypeId) (x : Operand) (ho : o.op = .load ty x)
    (b o0 : Nat) (hx : a.eval x = .pointer (some ⟨b, o0, none⟩)) (cs : List Value) (d : TypeDesc) (hc : w.rangeAt b o0 cs)
    (hu : P.underlying ty = some d) (hd : d.isRow = true) (hi : (P.info? ty).map (·.size) = some cs.length)
    (h : wpListIn Fence.wide n P ops Q rest (a.put o.dst (.agg cs.toArray)) w) : wpListIn Fence.wide n P ops Q (o :: rest) a w :=
  wpListIn_plain hgd fun _ hK => oper_wide (wp_load_mid ty x ho b o0 hx cs d hc hu hd hi (hK _ _ h))
theorem wpListIn_store_wide {rest : List Oper} {o : Oper} {a : Act} {w : World} (hgd : o.guard = none) (ty : TypeId) (x y : Operand) (ho : o.op = .store ty x y)
    (b o0 : Nat) (cells : Array Value) (hx : a.eval x = .pointer (some ⟨b, o0, none⟩)) (hy : a.eval y = .agg cells)
    (ht : w.there b o0 cells.size) (hi : (P.info? ty).map (·.size) = some cells.size) (h1 : cells.all (·.oneCell') = true)
    (h : ∀ w', w' = w.setCells b o0 cells.toList → wpListIn Fence.wide n P ops Q rest (a.put o.dst undef) w') : wpListIn Fence.wide n P ops Q (o :: rest) a w :=
  wpListIn_plain hgd fun _ hK => oper_wide (wp_store_mid ty x y ho b o0 cells hx hy ht hi h1 (hK _ _ (h _ rfl)))
end
theorem wpList_store_w {P : Program} {ops : Array Oper} {Q : Exit → Act → World → Prop} {rest : List Oper} {o : Oper} {a : Act} {w : World} (hgd : o.guard = none) (ty : TypeId) (x y : Operand) (ho : o.op = .store ty x y)
    (b o0 : Nat) (cells : Array Value) (hx : a.eval x = .pointer (some ⟨b, o0, none⟩)) (hy : a.eval y = .agg cells)
    (ht : w.there b o0 cells.size) (hi : (P.info? ty).map (·.size) = some cells.size) (h1 : cells.all (·.oneCell') = true)
    (h : ∀ w', w' = w.setCells b o0 cells.toList → wpList P ops Q rest (a.put o.dst undef) w') : wpList P ops Q (o :: rest) a w :=
  wpList_store_mid hgd ty x y ho b o0 cells hx hy ht hi h1 (h _ rfl)
theorem blk_setCells {b : Nat} {t : TypeId} : ∀ (vs : List Value) (o : Nat) (w : World) (cs : Array Value), Blk w b t cs → o + vs.length ≤ cs.size → Blk (w.setCells b o vs) b t ⟨cs.toList.take o ++ vs ++ cs.toList.drop (o + vs.length)⟩
  | [], o, w, cs, h, _ => by
    simp only [List.length_nil, Nat.add_zero, List.append_nil, List.take_append_drop]
    exact h
  | v :: r, o, w, cs, h, hl => by
    rw [World.setCells]
    have h1 := blk_setCells r (o + 1) _ _ (h.set_ o v) (by simp at hl ⊢; omega)
    have e : (⟨(cs.setIfInBounds o v).toList.take (o + 1) ++ r ++ (cs.setIfInBounds o v).toList.drop (o + 1 + r.length)⟩ : Array Value) = ⟨cs.toList.take o ++ (v :: r) ++ cs.toList.drop (o + (v :: r).length)⟩ := by
      congr 1
      have ho : o < cs.toList.length := by simp at hl ⊢; omega
      rw [Array.toList_setIfInBounds, List.take_succ_eq_append_getElem (by simpa using ho), List.getElem_set_self, List.take_set_of_le (Nat.le_refl _), List.drop_set_of_lt (by omega)]
      simp [Nat.add_assoc, Nat.add_comm 1]
    rw [← e]
    exact h1
theorem blk_setAll {w : World} {b : Nat} {t : TypeId} {l l' : List UInt8} (h : Blk w b t (brow l)) (hl : l'.length = l.length) : Blk (w.setCells b 0 (l'.map B8)) b t (brow l') := by
  have h1 := blk_setCells (l'.map B8) 0 w _ h (by simp [brow, hl])
  have e : List.drop l.length (List.map B8 l) = [] := List.drop_eq_nil_of_le (by simp)
  simpa [brow, hl, e] using h1
theorem fr_setCells {b : Nat} : ∀ (vs : List Value) (o : Nat) (w : World), Fr (OnB b) w (w.setCells b o vs)
  | [], _, w => Fr.refl _ w
  | v :: r, o, w => ((Fr.refl (OnB b) w).setIn (p := ⟨b, o, none⟩) (fun _ _ => rfl) v).trans (fr_setCells r (o + 1) _)
theorem size_setCells (b : Nat) : ∀ (vs : List Value) (o : Nat) (w : World), (w.setCells b o vs).heap.size = w.heap.size
  | [], _, _ => rfl
  | v :: r, o, w => by rw [World.setCells, size_setCells b r]; simp [World.setCell]
theorem there_blk {w : World} {b : Nat} {t : TypeId} {l : List UInt8} (h : Blk w b t (brow l)) : w.there b 0 l.length := fun j hj => ⟨by rw [Nat.zero_add, h.cell, brow_get _ _ hj]; rfl, h.frozen _⟩
theorem range_blk {w : World} {b : Nat} {t : TypeId} {l : List UInt8} (h : Blk w b t (brow l)) : w.rangeAt b 0 (l.map B8) := fun j v hv => by
  rw [Nat.zero_add, h.cell]
  simpa [brow] using hv
theorem keeps_of_fr {S : Nat → Obj → Prop} {w w' : World} (h : Fr S w w') (hS : ∀ k o, w.heap[k]? = some o → S k o → o.isCells = true) : KeepsOthers w w' :=
  ⟨h.size, fun k o ho hc => h.block k o ho (fun x => by have := hS k o ho x; rw [hc] at this; cases this)⟩
end Go.Proofs.Ytmilanicedjhmaa
