/- Slices that the call itself has made: stores, prefixes, clear. No program in sight. -/
import Derived.Test.YtialmfbjkegjoaaS
import Derived.Deep.MidRow
import Derived.Lib.SliceRun
set_option linter.unusedVariables false
set_option linter.unusedSimpArgs false
namespace Go.Proofs.Ytialmfbjkegjoaa
open Go.RowKit

theorem alloc_cells {w w2 : World} {cs : Array Value} {T : TypeId} (hb : Below (w.alloc (.cells cs T)).heap.size (w.alloc (.cells cs T)) w2) (j : Nat) (u : Value) (h : cs[j]? = some u) : w2.cell? ⟨w.heap.size, j, none⟩ = some u := by
  rw [hb.cell (by simp)]
  simp [h]
theorem below_alloc_then {w w2 : World} {o : Obj} (hb : Below (w.alloc o).heap.size (w.alloc o) w2) : Below w.heap.size w w2 := ((Below.refl _ _).alloc (Nat.le_refl _) o).trans (hb.mono (by simp))
def setL (l : List Value) : Nat → List Value → List Value
  | _, [] => l
  | o, v :: r => setL (l.set o v) (o + 1) r
theorem setL_len : ∀ (vs : List Value) (l : List Value) (o : Nat), (setL l o vs).length = l.length
  | [], l, o => rfl
  | v :: r, l, o => by rw [setL, setL_len r]; simp
theorem setL_at : ∀ (vs : List Value) (l : List Value) (o j : Nat), (setL l o vs)[j]? = if o ≤ j ∧ j < o + vs.length ∧ j < l.length then vs[j - o]? else l[j]?
  | [], l, o, j => by simp [setL]; intro h1 h2; omega
  | v :: r, l, o, j => by
    rw [setL, setL_at r]
    simp only [List.length_cons, List.length_set]
    by_cases h : o + 1 ≤ j ∧ j < o + 1 + r.length ∧ j < l.length
    · rw [if_pos h, if_pos (by omega)]
      obtain ⟨q, rfl⟩ : ∃ q, j = o + 1 + q := ⟨j - o - 1, by omega⟩
      rw [show o + 1 + q - (o + 1) = q by omega, show o + 1 + q - o = q + 1 by omega]
      rfl
    · rw [if_neg h]
      by_cases h2 : j = o
      · subst h2
        by_cases h3 : j < l.length
        · rw [if_pos (by omega), List.getElem?_set_self h3]; simp
        · rw [if_neg (by omega), List.getElem?_eq_none (by simpa using h3), List.getElem?_eq_none (by omega)]
      · rw [List.getElem?_set_ne (by omega)]
        by_cases h4 : o ≤ j ∧ j < o + (r.length + 1) ∧ j < l.length
        · exact absurd (by omega) h
        · rw [if_neg h4]
section
variable {α : Type} {enc : α → List Value} {k : Nat}
theorem flat_set (E : EncK enc k) (xs : List α) (i : Nat) (x : α) : flat enc (xs.set i x) = setL (flat enc xs) (i * k) (enc x) := by
  apply List.ext_getElem?
  intro j
  rw [setL_at, E.len, flat_len E]
  have hp := E.pos
  by_cases hj : j < xs.length * k
  · have hdiv : j / k < xs.length := by rw [Nat.div_lt_iff_lt_mul hp]; exact hj
    have hmod : j % k < k := Nat.mod_lt _ hp
    have e : j / k * k + j % k = j := by rw [Nat.mul_comm]; exact Nat.div_add_mod j k
    by_cases hi : j / k = i
    · have h1 : (xs.set i x)[j / k]? = some x := by rw [hi]; exact List.getElem?_set_self (by omega)
      have h2 := flat_at E _ _ (j % k) _ h1 hmod
      rw [e] at h2
      rw [h2, if_pos ⟨by rw [← hi]; exact Nat.div_mul_le_self j k, by rw [← hi]; omega, hj⟩]
      congr 1
      rw [← hi]; omega
    · have h1 : (xs.set i x)[j / k]? = some xs[j / k] := by rw [List.getElem?_set_ne (by omega)]; exact List.getElem?_eq_getElem hdiv
      have h2 := flat_at E _ _ (j % k) _ h1 hmod
      have h3 := flat_at E xs _ (j % k) _ (List.getElem?_eq_getElem hdiv) hmod
      rw [e] at h2 h3
      rw [h2, ← h3, if_neg]
      rintro ⟨h4, h5, -⟩
      apply hi
      have h6 : i ≤ j / k := by rw [Nat.le_div_iff_mul_le hp]; exact h4
      have h7 : j / k < i + 1 := by rw [Nat.div_lt_iff_lt_mul hp, Nat.add_mul]; omega
      omega
  · rw [if_neg (by omega), List.getElem?_eq_none (by rw [flat_len E]; simpa using hj), List.getElem?_eq_none (by rw [flat_len E]; omega)]
theorem flat_take (E : EncK enc k) (xs : List α) (i : Nat) (hi : i ≤ xs.length) : flat enc (xs.take i) = (flat enc xs).take (i * k) := by
  have : flat enc xs = flat enc (xs.take i) ++ flat enc (xs.drop i) := by rw [← flat_app, List.take_append_drop]
  have hl : (flat enc (xs.take i)).length = i * k := by rw [flat_len E, List.length_take, Nat.min_eq_left hi]
  have h2 : (flat enc xs).take (i * k) = flat enc (xs.take i) := by
    rw [this, List.take_append_of_le_length (by rw [hl]; exact Nat.le_refl _), List.take_of_length_le (by rw [hl]; exact Nat.le_refl _)]
  exact h2.symm
theorem own_setCells {e : TypeId} {base g n cap size : Nat} : ∀ (vs : List Value) (o : Nat) (w : World) (cs : List Value), w.ownsRow base e size (.slice (some ⟨g, 0, none⟩) n cap) n cs →
    (w.setCells g o vs).ownsRow base e size (.slice (some ⟨g, 0, none⟩) n cap) n (setL cs o vs) ∧ w.grownBy (w.setCells g o vs) (some g)
  | [], o, w, cs, h => ⟨h, World.grownBy.refl _ _⟩
  | v :: r, o, w, cs, h => by
    have h1 := h.stored o v
    have h2 := own_setCells r (o + 1) _ _ h1.1
    exact ⟨h2.1, h1.2.trans h2.2⟩
theorem own_there {e : TypeId} {base g n cap size : Nat} {w : World} {cs : List Value} (h : w.ownsRow base e size (.slice (some ⟨g, 0, none⟩) n cap) n cs) (o m : Nat) (ho : o + m ≤ n * size) : w.there g o m := by
  intro j hj
  refine ⟨?_, h.frozenAt _⟩
  rw [h.cellAt (o + j) (by omega), List.getElem?_eq_getElem (by rw [h.1]; omega)]
  rfl
/-- s[i] = x, s a row of the call's own. -/
theorem wp_store_own {P : Program} (E : EncK enc k) {ops : Array Oper} {rest : List Oper} {op : Oper} {a : Act} {w : World} {Q : Exit → Act → World → Prop} (hgd : op.guard = none) (ty : TypeId) (x y : Operand) (ho : op.op = .store ty x y)
    {e : TypeId} {base : Nat} (g cap i : Nat) (xs : List α) (x0 : α) (hx : a.eval x = .pointer (some ⟨g, i * k, none⟩)) (hy : a.eval y = .agg (enc x0).toArray) (hinfo : (P.info? ty).map (·.size) = some k)
    (HO : Own enc k e w base (.slice (some ⟨g, 0, none⟩) xs.length cap) xs) (hi : i < xs.length)
    (h : ∀ w', Own enc k e w' base (.slice (some ⟨g, 0, none⟩) xs.length cap) (xs.set i x0) → w.grownBy w' (some g) → wpList P ops Q rest (a.put op.dst undef) w') : wpList P ops Q (op :: rest) a w := by
  have hb : i * k + k ≤ xs.length * k := by rw [← Nat.succ_mul]; exact Nat.mul_le_mul_right k hi
  have h1 := own_setCells (enc x0) (i * k) w _ HO
  refine wpList_store_mid hgd ty x y ho g (i * k) (enc x0).toArray hx hy (by simpa [E.len] using own_there HO (i * k) k hb) (by simpa [E.len] using hinfo) (all_oneCell_toArray (E.one x0)) ?_
  refine h _ ?_ h1.2
  unfold Own
  rw [List.length_set, flat_set E]
  exact h1.1
theorem Own.prefix_ {e : TypeId} {w : World} {base g cap : Nat} {xs : List α} (E : EncK enc k) (HO : Own enc k e w base (.slice (some ⟨g, 0, none⟩) xs.length cap) xs) (i : Nat) (hi : i ≤ xs.length) :
    Own enc k e w base (.slice (some ⟨g, 0, none⟩) i cap) (xs.take i) := by
  obtain ⟨h1, h2⟩ := HO
  rcases h2 with ⟨h2, _⟩ | ⟨g', cap', cur, h2, hb, hg, hn, hc, hs, ht⟩
  · cases h2
  · injection h2 with h2a h2b h2c
    injection h2a with h2a
    injection h2a with h2a
    subst h2a h2c
    have hl : (xs.take i).length = i := by rw [List.length_take, Nat.min_eq_left hi]
    unfold Own
    rw [hl]
    refine ⟨by rw [flat_len E, hl], .inr ⟨g, cap, cur, rfl, hb, hg, by omega, hc, hs, ?_⟩⟩
    rw [flat_take E xs i hi, ← ht, List.take_take, Nat.min_eq_left (Nat.mul_le_mul_right k hi)]
theorem Own.frozen {e : TypeId} {w : World} {base g n cap : Nat} {xs : List α} (HO : Own enc k e w base (.slice (some ⟨g, 0, none⟩) n cap) xs) (j : Nat) : w.frozen? ⟨g, j, none⟩ = false := by
  obtain ⟨h1, h2⟩ := HO
  rcases h2 with ⟨h2, _⟩ | ⟨g', cap', cur, h2, hb, hg, hn, hc, hs, ht⟩
  · cases h2
  · injection h2 with h2a h2b h2c
    injection h2a with h2a
    injection h2a with h2a
    subst h2a
    simp [World.frozen?, hg]
/-- clear(s[i:]), s a row of the call's own: what stands ahead of i stays. -/
theorem run_clear_own {P : Program} (E : EncK enc k) (t e ty : TypeId) (z : Value) (ht : P.underlying t = some (.slice e)) (hv : ∀ w, (zeroValue e).run P w = .ok z w) (hz : z.cells.size = k) (h1 : ∀ u ∈ z.cells.toList, u.oneCell' = true)
    {w : World} {base g cap : Nat} {xs : List α} (HO : Own enc k e w base (.slice (some ⟨g, 0, none⟩) xs.length cap) xs) (i : Nat) (hi : i ≤ xs.length) (A : Option Addr) (c : Nat) (hA : i < xs.length → A = some ⟨g, i * k, none⟩) :
    ∃ w', (Builtin.clear_ #[t] ty #[.slice A (xs.length - i) c]).run P w = .ok (.tuple #[]) w' ∧ Own enc k e w' base (.slice (some ⟨g, 0, none⟩) i cap) (xs.take i) ∧ w.grownBy w' (some g) := by
  by_cases hl : i < xs.length
  · rw [hA hl]
    have hzl : (Builtin.zeroCells z.cells (xs.length - i)).toList.length = (xs.length - i) * k := by simp [Builtin.zeroCells, hz]
    have hz1 : ∀ u ∈ (Builtin.zeroCells z.cells (xs.length - i)).toList, u.oneCell' = true := by
      intro u hu
      simp only [Builtin.zeroCells, Array.toList_map, List.mem_map] at hu
      obtain ⟨j, _, rfl⟩ := hu
      have hj : j % z.cells.size < z.cells.size := Nat.mod_lt _ (by rw [hz]; exact E.pos)
      apply h1
      simp [getElem!_pos, hj]
    have hth := own_there HO (i * k) ((xs.length - i) * k) (by rw [← Nat.add_mul]; exact Nat.mul_le_mul_right k (by omega))
    have hst := run_storeCells_cells (P := P) g (i * k) (Builtin.zeroCells z.cells (xs.length - i)).toList 0 w (fun j hj => by rw [Nat.add_zero]; exact (hth j (by rwa [hzl] at hj)).1) (fun j hj => by rw [Nat.add_zero]; exact (hth j (by rwa [hzl] at hj)).2) hz1
    rw [Nat.add_zero] at hst
    have h2 := own_setCells (Builtin.zeroCells z.cells (xs.length - i)).toList (i * k) w _ HO
    refine ⟨_, ?_, ?_, h2.2⟩
    · obtain ⟨m, hm⟩ : ∃ m, xs.length - i = m + 1 := ⟨xs.length - i - 1, by omega⟩
      rw [hm] at hst ⊢
      simp [Builtin.clear_, run_underlying ht, hv, hst]
    · have h3 := h2.1
      rcases h3.2 with ⟨h4, _⟩ | ⟨g', cap', cur, h4, hb, hg, hn, hc, hs, ht'⟩
      · cases h4
      · injection h4 with h4a h4b h4c
        injection h4a with h4a
        injection h4a with h4a
        subst h4a h4c
        have hl2 : (xs.take i).length = i := by rw [List.length_take, Nat.min_eq_left hi]
        unfold Own
        rw [hl2]
        refine ⟨by rw [flat_len E, hl2], .inr ⟨g, cap, cur, rfl, hb, hg, by omega, hc, hs, ?_⟩⟩
        have h5 : cur.toList.take (i * k) = (setL (flat enc xs) (i * k) (Builtin.zeroCells z.cells (xs.length - i)).toList).take (i * k) := by
          rw [← ht', List.take_take, Nat.min_eq_left (Nat.mul_le_mul_right k hi)]
        rw [h5, flat_take E xs i hi]
        apply List.ext_getElem?
        intro j
        rw [List.getElem?_take, List.getElem?_take]
        split
        · rw [setL_at, if_neg (by omega)]
        · rfl
  · obtain rfl : i = xs.length := by omega
    refine ⟨w, ?_, by rw [List.take_length]; exact HO, World.grownBy.refl _ _⟩
    rw [Nat.sub_self]
    rcases A with _ | ad <;> simp [Builtin.clear_, run_underlying ht]
theorem wp_clear_own {P : Program} (E : EncK enc k) {ops : Array Oper} {rest : List Oper} {o : Oper} {a : Act} {Q : Exit → Act → World → Prop} (hgd : o.guard = none) (x : Operand) (t e : TypeId) (z : Value)
    (ho : o.op = .call { callee := .builtin .clear, args := #[x], argTypes := #[t] }) (ht : P.underlying t = some (.slice e)) (hv : ∀ w, (zeroValue e).run P w = .ok z w) (hz : z.cells.size = k) (h1 : ∀ u ∈ z.cells.toList, u.oneCell' = true)
    {w : World} {base g cap : Nat} (xs : List α) (i m : Nat) (A : Option Addr) (c : Nat) (hm : m = xs.length - i) (hx : a.eval x = .slice A m c) (HO : Own enc k e w base (.slice (some ⟨g, 0, none⟩) xs.length cap) xs) (hi : i ≤ xs.length) (hA : i < xs.length → A = some ⟨g, i * k, none⟩)
    (h : ∀ w', Own enc k e w' base (.slice (some ⟨g, 0, none⟩) i cap) (xs.take i) → w.grownBy w' (some g) → wpList P ops Q rest (a.put o.dst (.tuple #[])) w') : wpList P ops Q (o :: rest) a w := by
  subst hm
  obtain ⟨w', hr, h2, h3⟩ := run_clear_own (P := P) E t e o.type z ht hv hz h1 HO i hi A c hA
  refine wpList_plain hgd fun K hK => ?_
  unfold Oper.wp execOp
  simp only [ho, resolve, invoke, builtin, Sem.run_bind, Sem.run_pure, Result.andThen_ok, List.map_toArray, List.map_cons, List.map_nil, hx, hr]
  exact hK _ _ (h w' h2 h3)
end
/-- r is where p first holds, or -1. -/
def IdxP {α : Type} (p : α → Bool) (xs : List α) (r : Int) : Prop := (r = -1 ∧ xs.all (fun x => !p x) = true) ∨ ∃ (k : Nat) (h : k < xs.length), r = k ∧ p xs[k] = true ∧ (xs.take k).all (fun x => !p x) = true
theorem IdxP.none {α : Type} {p : α → Bool} {xs : List α} {r : Int} (h : IdxP p xs r) (ha : xs.all (fun x => !p x) = true) : r = -1 := by
  rcases h with ⟨h, _⟩ | ⟨k, hk, _, hp, _⟩
  · exact h
  · have := List.all_eq_true.1 ha xs[k] (List.getElem_mem hk)
    simp [hp] at this
theorem IdxP.some {α : Type} {p : α → Bool} {xs : List α} {r : Int} (h : IdxP p xs r) (ha : ¬ xs.all (fun x => !p x) = true) : ∃ (k : Nat) (h : k < xs.length), r = k ∧ Hid (p xs[k] = true) ∧ Hid ((xs.take k).all (fun x => !p x) = true) := by
  rcases h with ⟨_, h⟩ | h
  · exact absurd h ha
  · exact h
theorem filter_all {α : Type} {p : α → Bool} {xs : List α} (h : xs.all (fun x => !p x) = true) : xs.filter (fun x => !p x) = xs := by
  rw [List.filter_eq_self]
  intro x hx
  exact List.all_eq_true.1 h x hx
/-- A row in which the first j elements were gone through: what stays of them, whatever, and the rest. -/
def Gone {α : Type} (q : α → Bool) (xs : List α) (j : Nat) (i : Nat) (ys : List α) : Prop := ∃ mid, ys = (xs.take j).filter q ++ mid ++ xs.drop j ∧ ((xs.take j).filter q).length = i ∧ i + mid.length = j
theorem Gone.len {α : Type} {q : α → Bool} {xs ys : List α} {i j : Nat} (h : Gone q xs j i ys) (hj : j ≤ xs.length) : ys.length = xs.length ∧ i ≤ j := by
  obtain ⟨mid, rfl, h1, h2⟩ := h
  simp only [List.length_append, List.length_drop]
  omega
theorem Gone.at {α : Type} {q : α → Bool} {xs ys : List α} {i j : Nat} (h : Gone q xs j i ys) (hj : j < xs.length) : ys[j]? = some xs[j] := by
  obtain ⟨mid, rfl, h1, h2⟩ := h
  rw [List.getElem?_append_right (by simp only [List.length_append]; omega)]
  rw [show j - ((xs.take j).filter q ++ mid).length = 0 by simp only [List.length_append]; omega]
  rw [List.getElem?_drop, Nat.add_zero, List.getElem?_eq_getElem hj]
theorem Gone.skip {α : Type} {q : α → Bool} {xs ys : List α} {i j : Nat} (h : Gone q xs j i ys) (hj : j < xs.length) (hq : q xs[j] = false) : Gone q xs (j + 1) i ys := by
  obtain ⟨mid, rfl, h1, h2⟩ := h
  refine ⟨mid ++ [xs[j]], ?_, ?_, by simp; omega⟩
  · rw [List.take_succ_eq_append_getElem hj, List.filter_append, List.filter_cons, hq, List.drop_eq_getElem_cons hj]
    simp
  · rw [List.take_succ_eq_append_getElem hj, List.filter_append, List.filter_cons, hq]
    simpa using h1
theorem Gone.keep {α : Type} {q : α → Bool} {xs ys : List α} {i j : Nat} (h : Gone q xs j i ys) (hj : j < xs.length) (hij : i < j) (hq : q xs[j] = true) : Gone q xs (j + 1) (i + 1) (ys.set i xs[j]) := by
  obtain ⟨mid, rfl, h1, h2⟩ := h
  rcases mid with _ | ⟨m, mid⟩
  · simp at h2; omega
  · refine ⟨mid ++ [xs[j]], ?_, ?_, by simp at h2 ⊢; omega⟩
    · rw [List.take_succ_eq_append_getElem hj, List.filter_append, List.filter_cons, hq, List.drop_eq_getElem_cons hj]
      rw [List.append_assoc, List.set_append_right _ _ (by omega), h1, Nat.sub_self]
      simp
    · rw [List.take_succ_eq_append_getElem hj, List.filter_append, List.filter_cons, hq]
      simp [h1]
theorem Gone.start {α : Type} {p : α → Bool} {xs : List α} {k : Nat} (hk : k < xs.length) (hp : p xs[k] = true) (h : (xs.take k).all (fun x => !p x) = true) : Gone (fun x => !p x) xs (k + 1) k xs := by
  refine ⟨[xs[k]], ?_, ?_, by simp⟩
  · rw [List.take_succ_eq_append_getElem hk, List.filter_append, filter_all h, List.filter_cons, hp]
    simp
  · rw [List.take_succ_eq_append_getElem hk, List.filter_append, filter_all h, List.filter_cons, hp]
    simp; omega
theorem Gone.end_ {α : Type} {q : α → Bool} {xs ys : List α} {i j : Nat} (h : Gone q xs j i ys) (hj : ¬ j < xs.length) : ys.take i = xs.filter q := by
  obtain ⟨mid, rfl, h1, h2⟩ := h
  rw [List.take_of_length_le (by omega : xs.length ≤ j)] at h1 ⊢
  rw [List.append_assoc, List.take_append_of_le_length (by omega), List.take_of_length_le (by omega)]
end Go.Proofs.Ytialmfbjkegjoaa
