/- The plain law of layer 5: setting changes in a table that may be. No program in sight. -/
import Derived.Test.YtialmfbjkegjoaaQ2
set_option linter.unusedVariables false
set_option linter.unusedSimpArgs false
namespace Go.Proofs.Ytialmfbjkegjoaa
open Go.RowKit

theorem less3_ltL (a b : ByteArray) : less3 a b = ltOf compareL a.data.toList b.data.toList := by
  rw [← lessB_eq]
  rfl
theorem bytes_ext {a b : ByteArray} (h : a.data.toList = b.data.toList) : a = b := by
  cases a; cases b
  simp only [ByteArray.mk.injEq]
  exact Array.ext' h
theorem less3_self (a : ByteArray) : less3 a a = false := by rw [less3_ltL]; exact (ltL_f _ _).2 (.inl rfl)
theorem less3_trans {a b c : ByteArray} (h : less3 a b = true) (h2 : less3 b c = true) : less3 a c = true := by rw [less3_ltL] at *; exact ltL_trans _ _ _ h h2
theorem less3_total {a b : ByteArray} (h : less3 a b = false) (hne : a ≠ b) : less3 b a = true := by
  rw [less3_ltL] at *
  rcases (ltL_f _ _).1 h with h | h
  · exact absurd (bytes_ext h.symm) hne
  · exact h
theorem less3_asymm {a b : ByteArray} (h : less3 a b = true) : less3 b a = false := by
  cases hb : less3 b a
  · rfl
  · have := less3_trans h hb; rw [less3_self] at this; cases this
/-- Two lists in a strict order with the same members are one. -/
theorem pair_ext {α : Type} {R : α → α → Prop} (hirr : ∀ x, ¬ R x x) (htr : ∀ x y z, R x y → R y z → R x z) : ∀ {xs ys : List α}, xs.Pairwise R → ys.Pairwise R → (∀ x, x ∈ xs ↔ x ∈ ys) → xs = ys
  | [], [], _, _, _ => rfl
  | [], y :: ys, _, _, h => by have := (h y).2 List.mem_cons_self; cases this
  | x :: xs, [], _, _, h => by have := (h x).1 List.mem_cons_self; cases this
  | x :: xs, y :: ys, h1, h2, h => by
    rw [List.pairwise_cons] at h1 h2
    have hxy : x = y := by
      rcases List.mem_cons.1 ((h x).1 List.mem_cons_self) with e | e
      · exact e
      · rcases List.mem_cons.1 ((h y).2 List.mem_cons_self) with e2 | e2
        · exact e2.symm
        · exact absurd (htr _ _ _ (h1.1 y e2) (h2.1 x e)) (hirr x)
    subst hxy
    congr 1
    refine pair_ext hirr htr h1.2 h2.2 fun z => ⟨fun hz => ?_, fun hz => ?_⟩
    · rcases List.mem_cons.1 ((h z).1 (List.mem_cons_of_mem _ hz)) with e | e
      · subst e; exact absurd (h1.1 z hz) (hirr z)
      · exact e
    · rcases List.mem_cons.1 ((h z).2 (List.mem_cons_of_mem _ hz)) with e | e
      · subst e; exact absurd (h2.1 z hz) (hirr z)
      · exact e
/-- A list whose neighbours stand in a transitive order is in that order. -/
theorem pair_of_next {α : Type} {R : α → α → Prop} (htr : ∀ x y z, R x y → R y z → R x z) : ∀ {xs : List α}, (∀ (i : Nat) (h : i + 1 < xs.length), R xs[i] xs[i + 1]) → xs.Pairwise R
  | [], _ => List.Pairwise.nil
  | [x], _ => List.pairwise_singleton _ _
  | x :: y :: r, h => by
    have ih : (y :: r).Pairwise R := pair_of_next htr fun i hi => h (i + 1) (by simpa using hi)
    rw [List.pairwise_cons]
    refine ⟨fun z hz => ?_, ih⟩
    have hxy : R x y := h 0 (by simp)
    rcases List.mem_cons.1 hz with e | e
    · rw [e]; exact hxy
    · exact htr _ _ _ hxy ((List.pairwise_cons.1 ih).1 z e)
def LtS (x y : PSeen) : Prop := less3 x.contact y.contact = true
theorem LtS_irr (x : PSeen) : ¬ LtS x x := by unfold LtS; rw [less3_self]; simp
theorem LtS_tr (x y z : PSeen) (h : LtS x y) (h2 : LtS y z) : LtS x z := less3_trans h h2
theorem rowsTo_at {less : ByteArray → ByteArray → Bool} {xs : List PSeen} {n : Nat} (h : rowsTo less xs n = true) (i : Nat) (hi : i < n) : rowB less xs i = true := List.all_eq_true.1 h i (List.mem_range.2 hi)
theorem mayT_sorted {t : List PSeen} (h : mayT less3 t = true) : t.Pairwise LtS := by
  unfold mayT at h
  simp only [Bool.and_eq_true, decide_eq_true_eq] at h
  refine pair_of_next LtS_tr fun i hi => ?_
  have := rowsTo_at h.2 (i + 1) hi
  rw [rowB_succ less3 t i hi] at this
  simp only [Bool.and_eq_true] at this
  exact this.2
theorem posTo_low {xs : List PSeen} {s : ByteArray} (hp : xs.Pairwise LtS) : ∀ (k : Nat) (hk : k ≤ xs.length) (j : Nat) (hj : j < posTo xs s k), less3 (xs[j]'(Nat.lt_of_lt_of_le (Nat.lt_of_lt_of_le hj (posTo_le _ _ _)) hk)).contact s = true
  | 0, _, j, hj => by simp [posTo] at hj
  | k + 1, hk, j, hj => by
    cases hs : less3 (xs[k]'(by omega)).contact s
    · have e := posTo_no (by omega) hs
      exact posTo_low hp k (by omega) j (by rw [← e]; exact hj)
    · have e := posTo_yes (by omega) hs
      rw [e] at hj
      rcases Nat.lt_or_ge j k with h | h
      · exact less3_trans (List.pairwise_iff_getElem.1 hp j k (by omega) (by omega) h) hs
      · obtain rfl : j = k := by omega
        exact hs
theorem posTo_high {xs : List PSeen} {s : ByteArray} : ∀ (k : Nat) (hk : k ≤ xs.length) (j : Nat) (hj : posTo xs s k ≤ j) (h2 : j < k), less3 (xs[j]'(Nat.lt_of_lt_of_le h2 hk)).contact s = false
  | 0, _, j, _, h2 => by omega
  | k + 1, hk, j, hj, h2 => by
    cases hs : less3 (xs[k]'(by omega)).contact s
    · have e := posTo_no (by omega) hs
      rcases Nat.lt_or_ge j k with h | h
      · exact posTo_high k (by omega) j (by rw [← e]; exact hj) h
      · obtain rfl : j = k := by omega
        exact hs
    · have e := posTo_yes (by omega) hs
      omega
theorem mem_insertAt {α : Type} {xs : List α} {i : Nat} {x y : α} : y ∈ insertAt xs i x ↔ y = x ∨ y ∈ xs := by
  unfold insertAt
  rw [List.mem_append, List.mem_cons]
  constructor
  · rintro (h | h | h)
    · exact .inr (List.mem_of_mem_take h)
    · exact .inl h
    · exact .inr (List.mem_of_mem_drop h)
  · rintro (h | h)
    · exact .inr (.inl h)
    · rw [← List.take_append_drop i xs, List.mem_append] at h
      rcases h with h | h
      · exact .inl h
      · exact .inr (.inr h)
theorem mem_setS {t : List PSeen} {c : PChange} {x : PSeen} : x ∈ setS t c ↔ (c.on = true ∧ x = ⟨c.contact, c.value⟩) ∨ (x ∈ t ∧ x.contact ≠ c.contact) := by
  have hf : x ∈ t.filter (fun x => !sameC c.contact x) ↔ x ∈ t ∧ x.contact ≠ c.contact := by
    rw [List.mem_filter]
    simp [sameC]
  unfold setS
  dsimp only
  by_cases ho : c.on = true
  · rw [if_pos ho, mem_insertAt, hf]
    simp [ho]
  · rw [if_neg ho, hf]
    simp [ho]
theorem setS_sorted {t : List PSeen} {c : PChange} (h : t.Pairwise LtS) : (setS t c).Pairwise LtS := by
  have hr : (t.filter (fun x => !sameC c.contact x)).Pairwise LtS := h.sublist List.filter_sublist
  have hm : ∀ x ∈ t.filter (fun x => !sameC c.contact x), x.contact ≠ c.contact := fun x hx => by
    have := (List.mem_filter.1 hx).2
    simpa [sameC] using this
  unfold setS
  dsimp only
  generalize t.filter (fun x => !sameC c.contact x) = r at hr hm
  by_cases ho : c.on = true
  · rw [if_pos ho]
    unfold insertAt
    have hle := posTo_le r c.contact r.length
    have hsplit := hr
    rw [← List.take_append_drop (posTo r c.contact r.length) r, List.pairwise_append] at hsplit
    obtain ⟨p1, p2, p3⟩ := hsplit
    have q1 : ∀ x ∈ r.take (posTo r c.contact r.length), less3 x.contact c.contact = true := fun x hx => by
      obtain ⟨j, hj, rfl⟩ := List.mem_iff_getElem.1 hx
      rw [List.length_take] at hj
      rw [List.getElem_take]
      exact posTo_low hr r.length (Nat.le_refl _) j (by omega)
    have q2 : ∀ x ∈ r.drop (posTo r c.contact r.length), less3 c.contact x.contact = true := fun x hx => by
      obtain ⟨j, hj, rfl⟩ := List.mem_iff_getElem.1 hx
      rw [List.length_drop] at hj
      rw [List.getElem_drop]
      exact less3_total (posTo_high r.length (Nat.le_refl _) _ (by omega) (by omega)) (hm _ (List.getElem_mem _))
    rw [List.pairwise_append, List.pairwise_cons]
    refine ⟨p1, ⟨fun x hx => q2 x hx, p2⟩, fun x hx y hy => ?_⟩
    rcases List.mem_cons.1 hy with e | e
    · rw [e]; exact q1 x hx
    · exact p3 x hx y e
  · rw [if_neg ho]
    exact hr
theorem setS_filter (t : List PSeen) (c : PChange) : (setS t c).filter (fun x => !sameC c.contact x) = t.filter (fun x => !sameC c.contact x) := by
  have hr : (t.filter (fun x => !sameC c.contact x)).filter (fun x => !sameC c.contact x) = t.filter (fun x => !sameC c.contact x) := by
    rw [List.filter_filter]
    simp
  unfold setS
  dsimp only
  by_cases ho : c.on = true
  · rw [if_pos ho]
    unfold insertAt
    rw [List.filter_append, List.filter_cons_of_neg (by simp [sameC]), ← List.filter_append, List.take_append_drop, hr]
  · rw [if_neg ho, hr]
theorem setS_last (t : List PSeen) (a b : PChange) (h : a.contact = b.contact) : setS (setS t a) b = setS t b := by
  have := setS_filter t a
  rw [h] at this
  generalize setS t a = u at *
  unfold setS
  dsimp only
  rw [this]
theorem setS_comm (t : List PSeen) (a b : PChange) (ht : mayT less3 t = true) (h : a.contact ≠ b.contact) : setS (setS t a) b = setS (setS t b) a := by
  have hs := mayT_sorted ht
  refine pair_ext LtS_irr LtS_tr (setS_sorted (setS_sorted hs)) (setS_sorted (setS_sorted hs)) fun x => ?_
  rw [mem_setS, mem_setS, mem_setS, mem_setS]
  constructor
  · rintro (⟨ho, rfl⟩ | ⟨⟨ho, rfl⟩ | ⟨hx, hne⟩, hn⟩)
    · exact .inr ⟨.inl ⟨ho, rfl⟩, fun e => h e.symm⟩
    · exact .inl ⟨ho, rfl⟩
    · exact .inr ⟨.inr ⟨hx, hn⟩, hne⟩
  · rintro (⟨ho, rfl⟩ | ⟨⟨ho, rfl⟩ | ⟨hx, hne⟩, hn⟩)
    · exact .inr ⟨.inl ⟨ho, rfl⟩, h⟩
    · exact .inl ⟨ho, rfl⟩
    · exact .inr ⟨.inr ⟨hx, hn⟩, hne⟩
theorem setS_len (t : List PSeen) (c : PChange) : (setS t c).length ≤ t.length + 1 := by
  have := List.length_filter_le (fun x => !sameC c.contact x) t
  unfold setS
  dsimp only
  split
  · rw [insert_len _ _ _ (posTo_le _ _ _)]; omega
  · omega
end Go.Proofs.Ytialmfbjkegjoaa
