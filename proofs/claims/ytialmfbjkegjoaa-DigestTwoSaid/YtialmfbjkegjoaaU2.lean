/- What ident.Merge comes to: the members of both, once, in order. No program in sight. -/
import Derived.Test.YtialmfbjkegjoaaU
set_option linter.unusedVariables false
set_option linter.unusedSimpArgs false
namespace Go.Proofs.Ytialmfbjkegjoaa
open Go.RowKit

theorem sortB_perm (zs : List (List UInt8)) : (sortB zs).Perm zs := List.mergeSort_perm _ _
theorem sortB_pair (zs : List (List UInt8)) : (sortB zs).Pairwise fun x y => ltOf compareL y x = false := by
  have h := List.pairwise_mergeSort (le := fun x y => !(ltOf compareL) y x) (fun a b c hab hbc => by
    simp only [Bool.not_eq_true'] at hab hbc ⊢
    exact compareL_swo.3 _ _ _ hbc hab) (fun a b => by
    cases hab : ltOf compareL b a
    · simp
    · have : ltOf compareL a b = false := by
        cases hba : ltOf compareL a b
        · rfl
        · have := ltL_trans _ _ _ hab hba
          rw [(ltL_f b b).2 (.inl rfl)] at this
          cases this
      simp [this]) zs
  exact h.imp fun hxy => by simpa using hxy
theorem compactTo_spec (d : Array (List UInt8)) (hs : ∀ i j, i < j → j < d.size → ltOf compareL d[j]! d[i]! = false) : ∀ m, m ≤ d.size →
    (Lib.compactUpTo d m).Pairwise (fun x y => ltOf compareL x y = true) ∧ (∀ x, x ∈ Lib.compactUpTo d m ↔ ∃ j, j < m ∧ d[j]! = x) ∧ (∀ k, m = k + 1 → ∀ x ∈ Lib.compactUpTo d m, x = d[k]! ∨ ltOf compareL x d[k]! = true)
  | 0, _ => by simp [Lib.compactUpTo]
  | m + 1, hm => by
    obtain ⟨h1, h2, h3⟩ := compactTo_spec d hs m (by omega)
    rw [Lib.compactUpTo_succ]
    have hlow : ∀ x ∈ Lib.compactUpTo d m, x = d[m]! ∨ ltOf compareL x d[m]! = true := by
      rcases m with _ | k
      · simp [Lib.compactUpTo]
      · intro x hx
        have hk := (ltL_f _ _).1 (hs k (k + 1) (by omega) (by omega))
        rcases h3 k rfl x hx with e | e
        · subst e
          rcases hk with e2 | e2
          · exact .inl e2
          · exact .inr e2
        · rcases hk with e2 | e2
          · rw [← e2]; exact .inr e
          · exact .inr (ltL_trans _ _ _ e e2)
    by_cases hk : Lib.keeps d m = true
    · rw [if_pos hk]
      have hlt : ∀ x ∈ Lib.compactUpTo d m, ltOf compareL x d[m]! = true := by
        intro x hx
        rcases hlow x hx with e | e
        · subst e
          rcases m with _ | k
          · simp [Lib.compactUpTo] at hx
          · rcases h3 k rfl _ hx with e | e
            · simp [Lib.keeps, e] at hk
            · rw [hs k (k + 1) (by omega) (by omega)] at e
              cases e
        · exact e
      refine ⟨List.pairwise_append.2 ⟨h1, List.pairwise_singleton _ _, fun x hx y hy => ?_⟩, fun x => ?_, fun k hkk x hx => ?_⟩
      · rw [List.mem_singleton] at hy
        rw [hy]
        exact hlt x hx
      · rw [List.mem_append, List.mem_singleton, h2]
        constructor
        · rintro (⟨j, hj, e⟩ | e)
          · exact ⟨j, by omega, e⟩
          · exact ⟨m, by omega, e.symm⟩
        · rintro ⟨j, hj, e⟩
          rcases Nat.lt_or_ge j m with h | h
          · exact .inl ⟨j, h, e⟩
          · obtain rfl : j = m := by omega
            exact .inr e.symm
      · obtain rfl : k = m := by omega
        rcases List.mem_append.1 hx with e | e
        · exact hlow x e
        · exact .inl (List.mem_singleton.1 e)
    · rw [if_neg hk, List.append_nil]
      have hkm : ∃ k, m = k + 1 ∧ d[k]! = d[m]! := by
        rcases m with _ | k
        · simp [Lib.keeps] at hk
        · refine ⟨k, rfl, ?_⟩
          simp [Lib.keeps] at hk
          exact hk.symm
      obtain ⟨k, rfl, e⟩ := hkm
      refine ⟨h1, fun x => ?_, fun k' hk' x hx => by
        obtain rfl : k' = k + 1 := by omega
        exact hlow x hx⟩
      rw [h2]
      constructor
      · rintro ⟨j, hj, h⟩
        exact ⟨j, by omega, h⟩
      · rintro ⟨j, hj, h⟩
        rcases Nat.lt_or_ge j (k + 1) with h' | h'
        · exact ⟨j, h', h⟩
        · obtain rfl : j = k + 1 := by omega
          exact ⟨k, by omega, e.trans h⟩
theorem compact_spec (zs : List (List UInt8)) (hs : zs.Pairwise fun x y => ltOf compareL y x = false) : (Lib.compact zs).Pairwise (fun x y => ltOf compareL x y = true) ∧ ∀ x, x ∈ Lib.compact zs ↔ x ∈ zs := by
  have hget : ∀ j, j < zs.length → zs.toArray[j]! = zs[j]! := fun j hj => by simp [hj]
  obtain ⟨h1, h2, _⟩ := compactTo_spec zs.toArray (fun i j hij hj => by
    have hj' : j < zs.length := by simpa using hj
    have := List.pairwise_iff_getElem.1 hs i j (by omega) hj' hij
    simpa [hj', Nat.lt_trans hij hj'] using this) zs.length (by simp)
  refine ⟨h1, fun x => ?_⟩
  unfold Lib.compact
  rw [h2]
  constructor
  · rintro ⟨j, hj, e⟩
    have : zs[j] = x := by simpa [hj] using e
    exact this ▸ List.getElem_mem hj
  · intro hx
    obtain ⟨j, hj, e⟩ := List.mem_iff_getElem.1 hx
    exact ⟨j, hj, by simpa [hj] using e⟩
theorem mergeL_mem {xs ys : List ByteArray} {s : ByteArray} : s ∈ mergeL xs ys ↔ s ∈ xs ∨ s ∈ ys := by
  unfold mergeL
  rw [List.mem_map]
  constructor
  · rintro ⟨l, hl, rfl⟩
    rw [(compact_spec _ (sortB_pair _)).2, (sortB_perm _).mem_iff, List.mem_map] at hl
    obtain ⟨a, ha, rfl⟩ := hl
    exact List.mem_append.1 ha
  · intro h
    refine ⟨s.data.toList, ?_, rfl⟩
    rw [(compact_spec _ (sortB_pair _)).2, (sortB_perm _).mem_iff, List.mem_map]
    exact ⟨s, List.mem_append.2 h, rfl⟩
def LtB (x y : ByteArray) : Prop := less3 x y = true
theorem LtB_irr (x : ByteArray) : ¬ LtB x x := by unfold LtB; rw [less3_self]; simp
theorem LtB_tr (x y z : ByteArray) (h : LtB x y) (h2 : LtB y z) : LtB x z := less3_trans h h2
theorem mergeL_sorted (xs ys : List ByteArray) : (mergeL xs ys).Pairwise LtB := by
  unfold mergeL
  rw [List.pairwise_map]
  refine (compact_spec _ (sortB_pair _)).1.imp fun {x y} h => ?_
  unfold LtB
  rw [less3_ltL]
  exact h
theorem mergeL_is {xs ys zs : List ByteArray} (hs : zs.Pairwise LtB) (hm : ∀ s, s ∈ zs ↔ s ∈ xs ∨ s ∈ ys) : mergeL xs ys = zs :=
  pair_ext LtB_irr LtB_tr (mergeL_sorted _ _) hs fun s => by rw [mergeL_mem, hm]
end Go.Proofs.Ytialmfbjkegjoaa
