/- A region that draws its order, told by what each operation's value is; the frame comes out of the goal; guards that are met. -/
import Derived.Test.YtialmfbjkegjoaaR
import Derived.Test.YtialmfbjkegjoaaS
set_option linter.unusedVariables false
set_option linter.unusedSimpArgs false
namespace Go.Proofs.Ytialmfbjkegjoaa
open Go.RowKit

/-- The frame: slot by slot what stood there, or an operation's value. -/
def mkF : List Value → List (Option Nat) → (Nat → Value) → List Value
  | s :: F, none :: ix, x => s :: mkF F ix x
  | _ :: F, some i :: ix, x => x i :: mkF F ix x
  | F, [], _ => F
  | [], _ :: _, _ => []
theorem mkF_len (F : List Value) (ix : List (Option Nat)) (x : Nat → Value) : (mkF F ix x).length = F.length := by
  induction F generalizing ix with
  | nil => cases ix <;> rfl
  | cons s F ih =>
    rcases ix with _ | ⟨_ | i, ix⟩
    · rfl
    · simp [mkF, ih]
    · simp [mkF, ih]
theorem mkF_at (F : List Value) (ix : List (Option Nat)) (x : Nat → Value) (p i : Nat) (h : ix[p]? = some (some i)) (hp : p < F.length) : (mkF F ix x)[p]? = some (x i) := by
  induction F generalizing ix p with
  | nil => simp at hp
  | cons s F ih =>
    rcases ix with _ | ⟨_ | j, ix⟩
    · simp at h
    · rcases p with _ | p
      · simp at h
      · simp only [mkF, List.getElem?_cons_succ] at h ⊢
        exact ih ix p h (by simpa using hp)
    · rcases p with _ | p
      · simp at h
        subst h
        simp [mkF]
      · simp only [mkF, List.getElem?_cons_succ] at h ⊢
        exact ih ix p h (by simpa using hp)
theorem mkF_upd_out (F : List Value) (ix : List (Option Nat)) (x : Nat → Value) (i : Nat) (v : Value) (h : ∀ q : Nat, ix[q]? ≠ some (some i)) : mkF F ix (updN x i v) = mkF F ix x := by
  induction F generalizing ix with
  | nil => cases ix <;> rfl
  | cons s F ih =>
    rcases ix with _ | ⟨_ | j, ix⟩
    · rfl
    · simp only [mkF]
      rw [ih ix fun q hq => h (q + 1) (by simpa using hq)]
    · simp only [mkF]
      rw [ih ix fun q hq => h (q + 1) (by simpa using hq)]
      have : j ≠ i := fun e => h 0 (by simp [e])
      simp [updN, this]
theorem mkF_upd (F : List Value) (ix : List (Option Nat)) (x : Nat → Value) (p i : Nat) (v : Value) (h : ix[p]? = some (some i)) (hu : ∀ q : Nat, ix[q]? = some (some i) → q = p) : mkF F ix (updN x i v) = (mkF F ix x).set p v := by
  induction F generalizing ix p with
  | nil => cases ix <;> rfl
  | cons s F ih =>
    rcases ix with _ | ⟨_ | j, ix⟩
    · simp at h
    · rcases p with _ | p
      · simp at h
      · simp only [mkF, List.set_cons_succ]
        rw [ih ix p (by simpa using h) fun q hq => by have := hu (q + 1) (by simpa using hq); omega]
    · rcases p with _ | p
      · simp at h
        subst h
        simp only [mkF, List.set_cons_zero]
        rw [mkF_upd_out F ix x j v fun q hq => by have := hu (q + 1) (by simpa using hq); omega]
        simp [updN]
      · simp only [mkF, List.set_cons_succ]
        have : j ≠ i := fun e => by have := hu 0 (by simp [e]); omega
        rw [ih ix p (by simpa using h) fun q hq => by have := hu (q + 1) (by simpa using hq); omega]
        simp [updN, this]
theorem mkF_start (F : List Value) (ix : List (Option Nat)) (x : Nat → Value) (h : ∀ p i : Nat, ix[p]? = some (some i) → x i = F[p]?.getD undef) : mkF F ix x = F := by
  induction F generalizing ix with
  | nil => cases ix <;> rfl
  | cons s F ih =>
    rcases ix with _ | ⟨_ | j, ix⟩
    · rfl
    · simp only [mkF]
      rw [ih ix fun p i hp => by simpa using h (p + 1) i (by simpa using hp)]
    · simp only [mkF]
      rw [ih ix fun p i hp => by simpa using h (p + 1) i (by simpa using hp)]
      have := h 0 j (by simp)
      simp at this
      rw [this]
/-- Which slot is operation i's. -/
def slotOf (l : List Oper) (i : Nat) : Option Nat := (l[i]?).bind (·.dst)
/-- What is asked of the region's text. -/
def okF (n : Nat) (l : List Oper) (ix : List (Option Nat)) : Bool :=
  (List.range l.length).all (fun i => match l[i]? with
    | none => false
    | some o => o.after.all (fun e => decide (e.on < i)) && (match o.guard with | none => true | some (g, _) => depB o g && (slotOf l g).isSome) &&
      (match o.dst with | none => (List.range ix.length).all (fun q => ix[q]? != some (some i)) | some p => decide (p < n) && (ix[p]? == some (some i)) && (List.range ix.length).all (fun q => ix[q]? != some (some i) || q == p))) &&
  (List.range ix.length).all (fun q => match ix[q]? with | some (some i) => slotOf l i == some q | _ => true)

theorem wp_region_valsF {P : Program} {id : Nat} {Q : Exit → Act → World → Prop} {w : World} {F : List Value} {df : List Deferred} {l : List Oper} (ix : List (Option Nat)) (V : List VP)
    (hm : P.follows .mixedOrders = true) (hB : okF F.length l ix = true)
    (hguard : AllOps (fun _ o => match o.guard with | none => True | some (g, b) => V[g]?.getD VP.all = VP.is (.bool b)) l 0)
    (hstep : AllOps (fun i o => ∀ x w1, Below w.heap.size w w1 → (∀ j, depB o j = true → (V[j]?.getD VP.all).p (x j) w1) → ∀ K : Act → World → Prop, (∀ v w', (V[i]?.getD VP.all).p v w' → Below w1.heap.size w1 w' → K (Act.put { tmps := (mkF F ix x).toArray, defers := df } o.dst v) w') → o.wp P { tmps := (mkF F ix x).toArray, defers := df } w1 K Q) l 0)
    (hend : ∀ x w1, Below w.heap.size w w1 → (∀ j, j < l.length → (V[j]?.getD VP.all).p (x j) w1) → Q .normal { tmps := (mkF F ix x).toArray, defers := df } w1) :
    (Code.region id l.toArray true).wp P Q { tmps := F.toArray, defers := df } w := by
  have hok : (∀ (i : Nat) (o : Oper), l[i]? = some o → (∀ e ∈ o.after, e.on < i) ∧ (∀ g b, o.guard = some (g, b) → depB o g = true ∧ ∃ p, slotOf l g = some p) ∧
      (match o.dst with | none => ∀ q : Nat, ix[q]? ≠ some (some i) | some p => p < F.length ∧ ix[p]? = some (some i) ∧ ∀ q : Nat, ix[q]? = some (some i) → q = p)) ∧
      ∀ q i : Nat, ix[q]? = some (some i) → slotOf l i = some q := by
    unfold okF at hB
    simp only [Bool.and_eq_true] at hB
    obtain ⟨h1, h2⟩ := hB
    refine ⟨fun i o ho => ?_, fun q i hq => ?_⟩
    · have hi := (List.getElem?_eq_some_iff.1 ho).1
      have := List.all_eq_true.1 h1 i (List.mem_range.2 hi)
      simp only [ho, Bool.and_eq_true, Array.all_eq_true', decide_eq_true_eq] at this
      obtain ⟨⟨ha, hg⟩, hd⟩ := this
      refine ⟨fun e he => ha e he, fun g b hgb => ?_, ?_⟩
      · rw [hgb] at hg
        simp only [Bool.and_eq_true, Option.isSome_iff_exists] at hg
        exact hg
      · cases hdst : o.dst with
        | none =>
          rw [hdst] at hd
          intro q hq
          have hql : q < ix.length := (List.getElem?_eq_some_iff.1 hq).1
          have := List.all_eq_true.1 hd q (List.mem_range.2 hql)
          simp [hq] at this
        | some p =>
          rw [hdst] at hd
          simp only [Bool.and_eq_true, decide_eq_true_eq, beq_iff_eq] at hd
          refine ⟨hd.1.1, hd.1.2, fun q hq => ?_⟩
          have hql : q < ix.length := (List.getElem?_eq_some_iff.1 hq).1
          have := List.all_eq_true.1 hd.2 q (List.mem_range.2 hql)
          simpa [hq] using this
    · have hql : q < ix.length := (List.getElem?_eq_some_iff.1 hq).1
      have := List.all_eq_true.1 h2 q (List.mem_range.2 hql)
      simpa [hq] using this
  clear hB
  obtain ⟨hok, hix⟩ := hok
  obtain ⟨A, hA⟩ : ∃ A : (Nat → Value) → Act, ∀ x, A x = { tmps := (mkF F ix x).toArray, defers := df } := ⟨_, fun _ => rfl⟩
  have hput : ∀ (i : Nat) (o : Oper), l[i]? = some o → ∀ x v, (A x).put o.dst v = A (updN x i v) := by
    intro i o ho x v
    have h3 := (hok i o ho).2.2
    rw [hA, hA]
    cases hdst : o.dst with
    | none =>
      rw [hdst] at h3
      simp only [Act.put]
      rw [mkF_upd_out F ix x i v h3]
    | some p =>
      rw [hdst] at h3
      simp only [Act.put]
      rw [mkF_upd F ix x p i v h3.2.1 h3.2.2, List.setIfInBounds_toArray]
  have hstart : A (fun i => match slotOf l i with | some p => F[p]?.getD undef | none => undef) = { tmps := F.toArray, defers := df } := by
    rw [hA, mkF_start F ix _ fun p i hp => by rw [hix p i hp]]
  rw [← hstart]
  refine wp_region_any hm ?_
  refine wpAny_inv (fun lst a w1 => lst.size = l.length ∧ Below w.heap.size w w1 ∧ ∃ x, a = A x ∧ ∀ j, lst.getD j false = true → (V[j]?.getD VP.all).p (x j) w1) ?_ ?_ ?_ ?_ _ _ _ _ ?_ ?_
  · intro i o ho
    exact (hok i o (by simpa using ho)).1
  · rintro lst a w1 ⟨h, _⟩
    simpa using h
  · rintro lst a w1 i o ⟨hs, hb, x, rfl, hx⟩ ho hv hd
    have ho' : l[i]? = some o := by simpa using ho
    obtain ⟨_, hgd, _⟩ := hok i o ho'
    have hdep : ∀ j, depB o j = true → lst.getD j false = true := by
      intro j hj
      unfold depB at hj
      rw [Array.any_eq_true'] at hj
      obtain ⟨e, he, hb⟩ := hj
      simp only [Bool.and_eq_true, beq_iff_eq] at hb
      rw [← hb.2]
      exact hd e he hb.1
    have hwant : Region.wanted o (yielded l.toArray (A x).tmps) = true := by
      unfold Region.wanted
      cases hg : o.guard with
      | none => rfl
      | some gb =>
        obtain ⟨g, b⟩ := gb
        obtain ⟨hdg, p, hp⟩ := hgd g b hg
        have hV := hguard.get i o ho'
        rw [hg] at hV
        have hxg := hx g (hdep g hdg)
        dsimp only at hV
        rw [hV] at hxg
        have hxg : x g = .bool b := hxg
        have hip : ∃ og, l[g]? = some og ∧ og.dst = some p := by
          unfold slotOf at hp
          exact Option.bind_eq_some_iff.1 hp
        obtain ⟨og, hog, hdst⟩ := hip
        have h3 := (hok g og hog).2.2
        rw [hdst] at h3
        have hat := mkF_at F ix x p g h3.2.1 h3.1
        have : yielded l.toArray (A x).tmps g = some b := by
          unfold yielded
          rw [hA]
          simp [hog, hdst, hat, hxg]
        simp [this]
    unfold wpOp
    simp only [ho]
    rw [if_pos hwant]
    refine Or.inl ?_
    have hst := hstep.get i o ho' x w1 hb fun j hj => hx j (hdep j hj)
    rw [← hA] at hst
    refine hst _ fun v w' hV hb' => ?_
    rw [Nat.zero_add] at hV
    refine ⟨by simpa using hs, hb.trans (hb'.mono hb.size), updN x i v, hput i o ho' x v, fun j hj => ?_⟩
    unfold updN
    split
    · rename_i e
      rw [e]
      exact hV
    · rename_i hne
      rw [getD_set_ne false (Ne.symm hne)] at hj
      exact (V[j]?.getD VP.all).st _ _ _ (hx j hj) hb'
  · rintro lst a w1 ⟨hs, hb, x, rfl, hx⟩ hall
    rw [hA]
    exact hend x w1 hb fun j hj => hx j (hall j (by simpa using hj))
  · simp [List.filter_replicate]
  · refine ⟨by simp, (Below.refl _ _).drew, _, rfl, fun j hj => ?_⟩
    rw [Array.getD_eq_getD_getElem?] at hj
    by_cases h : j < l.length
    · simp [h] at hj
    · simp [h] at hj
/-- A slice value that reads as xs. -/
def VP.slv {α : Type} (enc : α → List Value) (k : Nat) (xs : List α) : VP := ⟨fun v w => SlV enc k w v xs, fun _ _ _ h hb => h.below hb⟩
end Go.Proofs.Ytialmfbjkegjoaa
