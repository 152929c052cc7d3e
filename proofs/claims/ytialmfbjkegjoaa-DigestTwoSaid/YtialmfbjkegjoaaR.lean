/- A region that draws its order, whose operations allocate, read and call such as leave alone what is there: by what each value is, not by the orders. -/
import Derived.Test.YtialmfbjkegjoaaK
set_option linter.unusedVariables false
set_option linter.unusedSimpArgs false
namespace Go.Proofs.Ytialmfbjkegjoaa
open Go.RowKit

theorem wpAny_inv {P : Program} {ops : Array Oper} {md : Region.Mode} {Q : Exit → Act → World → Prop} (I : Array Bool → Act → World → Prop)
    (hlt : ∀ (i : Nat) (o : Oper), ops[i]? = some o → ∀ e ∈ o.after, e.on < i)
    (hsz : ∀ l a w, I l a w → l.size = ops.size)
    (hstep : ∀ (l : Array Bool) (a : Act) (w : World) (i : Nat) (o : Oper), I l a w → ops[i]? = some o → l.getD i true = false → (∀ e ∈ o.after, Region.binds md e = true → l.getD e.on false = true) → wpOp P ops Q i (I (l.setIfInBounds i true)) a w)
    (hend : ∀ l a w, I l a w → (∀ i, i < ops.size → l.getD i false = true) → Q .normal a w) :
    ∀ (fuel : Nat) (l : Array Bool) (a : Act) (w : World), (l.toList.filter (! ·)).length ≤ fuel → I l a w → wpAny P md ops Q fuel l a w := by
  have hall : ∀ l a w, I l a w → Region.ready md ops l = [] → ∀ i, i < ops.size → l.getD i false = true := by
    intro l a w h hr i
    induction i using Nat.strongRecOn with
    | ind i ih =>
      intro hi
      cases hv : l.getD i true with
      | true =>
        have := hsz l a w h
        rw [Array.getD_eq_getD_getElem?, Array.getElem?_eq_getElem (by omega)] at hv ⊢
        exact hv
      | false =>
        have : i ∈ Region.ready md ops l := mem_ready.2 ⟨hv, ops[i], Array.getElem?_eq_getElem hi, fun e he _ => ih e.on (hlt i _ (Array.getElem?_eq_getElem hi) e he) (Nat.lt_trans (hlt i _ (Array.getElem?_eq_getElem hi) e he) hi)⟩
        rw [hr] at this
        cases this
  intro fuel
  induction fuel with
  | zero =>
    intro l a w hf h
    have hr : Region.ready md ops l = [] := by
      rcases hr : Region.ready md ops l with _ | ⟨i, r⟩
      · rfl
      · have hi : i ∈ Region.ready md ops l := by rw [hr]; exact List.mem_cons_self ..
        obtain ⟨hv, o, ho, _⟩ := mem_ready.1 hi
        have hil : i < l.size := by
          have := hsz l a w h
          have := (Array.getElem?_eq_some_iff.1 ho).1
          omega
        rw [Array.getD_eq_getD_getElem?, Array.getElem?_eq_getElem hil] at hv
        have : l[i] ∈ l.toList.filter (! ·) := by
          rw [List.mem_filter]
          exact ⟨by simp, by simpa using hv⟩
        have := List.length_pos_of_mem this
        omega
    exact ⟨hr, hend l a w h (hall l a w h hr)⟩
  | succ fuel ih =>
    intro l a w hf h
    refine ⟨fun hr => hend l a w h (hall l a w h hr), fun i hi => ?_⟩
    obtain ⟨hv, o, ho, hd⟩ := mem_ready.1 hi
    refine wpOp_mono (fun a' w' h' => ih _ a' w' ?_ h') (hstep l a w i o h ho hv hd)
    have hil : i < l.size := by
      have := hsz l a w h
      have := (Array.getElem?_eq_some_iff.1 ho).1
      omega
    rw [Array.getD_eq_getD_getElem?, Array.getElem?_eq_getElem hil] at hv
    have hv : l[i] = false := by simpa using hv
    have e : l.toList = l.toList.take i ++ false :: l.toList.drop (i + 1) := by
      rw [← hv]
      have := List.getElem_cons_drop (as := l.toList) (i := i) (by simpa using hil)
      simp only [Array.getElem_toList] at this
      rw [this, List.take_append_drop]
    have e2 : (l.setIfInBounds i true).toList = l.toList.take i ++ true :: l.toList.drop (i + 1) := by
      rw [Array.toList_setIfInBounds, List.set_eq_take_append_cons_drop, if_pos (by simpa using hil)]
    rw [e, List.filter_append, List.length_append] at hf
    rw [e2, List.filter_append, List.length_append]
    simp only [List.filter_cons, Bool.not_false, Bool.not_true, if_true, Bool.false_eq_true, if_false, List.length_cons] at hf ⊢
    omega

def updN (x : Nat → Value) (i : Nat) (v : Value) : Nat → Value := fun j => if j = i then v else x j

/-- V i v w: what operation i's value v is, in the world w. deps: what it waits for. mk: the frame, from the operations' values. -/
theorem wp_region_inv {P : Program} {id : Nat} {Q : Exit → Act → World → Prop} {w : World} {l : List Oper} (mk : (Nat → Value) → Act) (x0 : Nat → Value) (V : Nat → Value → World → Prop) (deps : Nat → List Nat)
    (hm : P.follows .mixedOrders = true)
    (hB : (List.range l.length).all (fun i => match l[i]? with | none => false | some o => o.guard.isNone && o.after.all (fun e => decide (e.on < i)) && (deps i).all fun j => o.after.any fun e => Region.binds .any e && e.on == j) = true)
    (hst : ∀ i v w1 w2, V i v w1 → Below w1.heap.size w1 w2 → V i v w2)
    (hput : ∀ i o, l[i]? = some o → ∀ x v, (mk x).put o.dst v = mk (updN x i v))
    (hstep : ∀ i o, l[i]? = some o → ∀ x w1, Below w.heap.size w w1 → (∀ j ∈ deps i, V j (x j) w1) → o.wp P (mk x) w1 (fun a' w' => ∃ v, a' = (mk x).put o.dst v ∧ V i v w' ∧ Below w1.heap.size w1 w') Q)
    (hend : ∀ x w1, Below w.heap.size w w1 → (∀ j, j < l.length → V j (x j) w1) → Q .normal (mk x) w1) :
    (Code.region id l.toArray true).wp P Q (mk x0) w := by
  have hB' : ∀ i o, l[i]? = some o → o.guard = none ∧ (∀ e ∈ o.after, e.on < i) ∧ ∀ j ∈ deps i, ∃ e ∈ o.after, Region.binds .any e = true ∧ e.on = j := by
    intro i o ho
    have hi := (List.getElem?_eq_some_iff.1 ho).1
    have := List.all_eq_true.1 hB i (List.mem_range.2 hi)
    simp only [ho, Bool.and_eq_true, Option.isNone_iff_eq_none, Array.all_eq_true', decide_eq_true_eq, List.all_eq_true, Array.any_eq_true'] at this
    obtain ⟨⟨h1, h2⟩, h3⟩ := this
    refine ⟨h1, fun e he => h2 e he, fun j hj => ?_⟩
    obtain ⟨e, he, hb⟩ := h3 j hj
    simp only [Bool.and_eq_true, beq_iff_eq] at hb
    exact ⟨e, he, hb⟩
  refine wp_region_any hm ?_
  refine wpAny_inv (fun lst a w1 => lst.size = l.length ∧ Below w.heap.size w w1 ∧ ∃ x, a = mk x ∧ ∀ j, lst.getD j false = true → V j (x j) w1) ?_ ?_ ?_ ?_ _ _ _ _ ?_ ?_
  · intro i o ho
    exact (hB' i o (by simpa using ho)).2.1
  · rintro lst a w1 ⟨h, _⟩
    simpa using h
  · rintro lst a w1 i o ⟨hs, hb, x, rfl, hx⟩ ho hv hd
    have ho' : l[i]? = some o := by simpa using ho
    obtain ⟨hg, _, hdp⟩ := hB' i o ho'
    unfold wpOp
    simp only [ho]
    rw [if_pos (by simp [Region.wanted, hg])]
    refine Or.inl (Oper.wp_mono ?_ (hstep i o ho' x w1 hb fun j hj => ?_))
    · rintro a' w' ⟨v, rfl, hV, hb'⟩
      refine ⟨by simpa using hs, hb.trans (hb'.mono hb.size), updN x i v, hput i o ho' x v, fun j hj => ?_⟩
      unfold updN
      split
      · rename_i e
        rw [e]
        exact hV
      · rename_i hne
        rw [getD_set_ne false (Ne.symm hne)] at hj
        exact hst j _ _ _ (hx j hj) hb'
    · obtain ⟨e, he, hbd, rfl⟩ := hdp j hj
      exact hx e.on (hd e he hbd)
  · rintro lst a w1 ⟨hs, hb, x, rfl, hx⟩ hall
    exact hend x w1 hb fun j hj => hx j (hall j (by simpa using hj))
  · simp [List.filter_replicate]
  · refine ⟨by simp, (Below.refl _ _).drew, x0, rfl, fun j hj => ?_⟩
    rw [Array.getD_eq_getD_getElem?] at hj
    by_cases h : j < l.length
    · simp [h] at hj
    · simp [h] at hj

/-- What a value is, in a world, and it stays so where nothing that is there changes. -/
structure VP where
  p : Value → World → Prop
  st : ∀ v w1 w2, p v w1 → Below w1.heap.size w1 w2 → p v w2
def VP.is (c : Value) : VP := ⟨fun v _ => v = c, fun _ _ _ h _ => h⟩
def VP.all : VP := ⟨fun _ _ => True, fun _ _ _ h _ => h⟩
/-- A slice that reads as xs. -/
def VP.sl {α : Type} (enc : α → List Value) (k : Nat) (xs : List α) : VP :=
  ⟨fun v w => ∃ A c, v = .slice A xs.length c ∧ RdS enc k w A xs, fun v w1 w2 ⟨A, c, e, h⟩ hb => ⟨A, c, e, h.below hb⟩⟩
/-- A pointer to these cells. -/
def VP.at (cs : List Value) : VP :=
  ⟨fun v w => ∃ b o, v = .pointer (some ⟨b, o, none⟩) ∧ ∀ j u, cs[j]? = some u → w.cell? ⟨b, o + j, none⟩ = some u,
   fun v w1 w2 ⟨b, o, e, h⟩ hb => ⟨b, o, e, fun j u hj => by rw [hb.cell (World.block_lt_of_cell? w1 _ (h j u hj)), h j u hj]⟩⟩
def AllOps (p : Nat → Oper → Prop) : List Oper → Nat → Prop
  | [], _ => True
  | o :: r, i => p i o ∧ AllOps p r (i + 1)
theorem AllOps.get {p : Nat → Oper → Prop} : ∀ {l : List Oper} {k : Nat}, AllOps p l k → ∀ i o, l[i]? = some o → p (k + i) o
  | [], _, _, i, o, h => by simp at h
  | x :: r, k, h, 0, o, ho => by
    simp at ho
    subst ho
    exact h.1
  | x :: r, k, h, i + 1, o, ho => by
    have := AllOps.get h.2 i o (by simpa using ho)
    rw [show k + (i + 1) = k + 1 + i by omega]
    exact this
def depB (o : Oper) (j : Nat) : Bool := o.after.any fun e => Region.binds .any e && e.on == j
theorem wp_region_vals {P : Program} {id : Nat} {Q : Exit → Act → World → Prop} {w : World} {l : List Oper} (mk : (Nat → Value) → Act) (x0 : Nat → Value) (V : List VP)
    (hm : P.follows .mixedOrders = true)
    (hB : (List.range l.length).all (fun i => match l[i]? with | none => false | some o => o.guard.isNone && o.after.all (fun e => decide (e.on < i)) && true) = true)
    (hput : AllOps (fun i o => ∀ x v, (mk x).put o.dst v = mk (updN x i v)) l 0)
    (hstep : AllOps (fun i o => ∀ x w1, Below w.heap.size w w1 → (∀ j, depB o j = true → (V[j]?.getD VP.all).p (x j) w1) → ∀ K : Act → World → Prop, (∀ v w', (V[i]?.getD VP.all).p v w' → Below w1.heap.size w1 w' → K ((mk x).put o.dst v) w') → o.wp P (mk x) w1 K Q) l 0)
    (hend : ∀ x w1, Below w.heap.size w w1 → (∀ j, j < l.length → (V[j]?.getD VP.all).p (x j) w1) → Q .normal (mk x) w1) :
    (Code.region id l.toArray true).wp P Q (mk x0) w := by
  refine wp_region_inv mk x0 (fun i => (V[i]?.getD VP.all).p) (fun i => match l[i]? with | none => [] | some o => (o.after.toList.filter (Region.binds .any)).map (·.on)) hm ?_ (fun i v w1 w2 => (V[i]?.getD VP.all).st v w1 w2) ?_ ?_ hend
  · rw [List.all_eq_true] at hB ⊢
    intro i hi
    have := hB i hi
    revert this
    cases l[i]? with
    | none => exact fun h => h
    | some o =>
      simp only [Bool.and_true, Bool.and_eq_true]
      intro h
      refine ⟨h, ?_⟩
      rw [List.all_eq_true]
      intro j hj
      simp only [List.mem_map, List.mem_filter] at hj
      obtain ⟨e, ⟨he, hb⟩, rfl⟩ := hj
      rw [Array.any_eq_true']
      exact ⟨e, by simpa using he, by simp [hb]⟩
  · intro i o ho x v
    have := hput.get i o ho x v
    rwa [Nat.zero_add] at this
  · intro i o ho x w1 hb hd
    have := hstep.get i o ho x w1 hb fun j hj => ?_
    · rw [Nat.zero_add] at this
      exact this _ fun v w' hv hb => ⟨v, rfl, hv, hb⟩
    · refine hd j ?_
      simp only [ho, List.mem_map, List.mem_filter]
      unfold depB at hj
      rw [Array.any_eq_true'] at hj
      obtain ⟨e, he, hb⟩ := hj
      simp only [Bool.and_eq_true, beq_iff_eq] at hb
      exact ⟨e, ⟨by simpa using he, hb.1⟩, hb.2⟩
end Go.Proofs.Ytialmfbjkegjoaa
