/- Slices that the call itself has made: copy as an equation; what an insertion makes of the cells. No program in sight. -/
import Derived.Test.YtialmfbjkegjoaaS2
import Derived.Lib.AppendZerosOnto
import Derived.Lib.AppendZeros
import Derived.Lib.Overlaps
import Derived.Shelf.Spec.SlicesInsert
set_option linter.unusedVariables false
set_option linter.unusedSimpArgs false
namespace Go.Proofs.Ytialmfbjkegjoaa
open Go.RowKit

theorem run_copy_k {P : Program} (w : World) (t t' ty e : TypeId) (size g o dl dc sl sc m : Nat) (A : Option Addr) (cs : List Value) (ht : P.underlying t = some (.slice e)) (hsz : (P.info? e).map (·.size) = some size)
    (hm : Nat.min sl dl = m) (hn : cs.length = m * size) (ad : Addr) (hA : A = some ad) (hsrc : ∀ j v, cs[j]? = some v → w.cell? (ad.add j) = some v) (hth : w.there g o cs.length) (h1 : ∀ v ∈ cs, v.oneCell' = true) :
    (Builtin.copy_ #[t, t'] ty #[.slice (some ⟨g, o, none⟩) dl dc, .slice A sl sc]).run P w = .ok (goInt m) (w.setCells g o cs) := by
  subst hA
  have hl := run_firstCells_some (P := P) w size m ad sl sc cs hn hsrc
  have hst := run_storeCells_cells (P := P) g o cs 0 w (fun j hj => by rw [Nat.add_zero]; exact (hth j hj).1) (fun j hj => by rw [Nat.add_zero]; exact (hth j hj).2) h1
  rw [Nat.add_zero] at hst
  cases hq : P.info? e with
  | none => simp [hq] at hsz
  | some i =>
    have hi : i.size = size := by simpa [hq] using hsz
    have hl' : (Builtin.firstCells i.size m (.slice (some ad) sl sc)).run P w = .ok cs.toArray w := by rw [hi]; exact hl
    simp [Builtin.copy_, run_underlying ht, Builtin.lenOf, sizeOf, typeInfo, hq, hm, hl', hst]

theorem splice_eq (L T X D : List Value) (k : Nat) (hX : X.length = k) (hL : L.length = T.length + k + D.length) (hT : ∀ j, j < T.length → L[j]? = T[j]?) : setL (setL L (T.length + k) D) T.length X = T ++ (X ++ D) := by
  apply List.ext_getElem?
  intro j
  rw [setL_at, setL_at, setL_len]
  by_cases h1 : j < T.length
  · rw [if_neg (by omega), if_neg (by omega), hT j h1, List.getElem?_append_left h1]
  · rw [List.getElem?_append_right (by omega)]
    by_cases h2 : j < T.length + k
    · rw [if_pos (by omega), List.getElem?_append_left (by omega)]
    · rw [if_neg (by omega), List.getElem?_append_right (by omega)]
      by_cases h3 : j < L.length
      · rw [if_pos (by omega)]; congr 1; omega
      · rw [if_neg (by omega), List.getElem?_eq_none (by omega), List.getElem?_eq_none (by omega)]
theorem splice_eq' (L T X D : List Value) (k : Nat) (hX : X.length = k) (hL : L.length = T.length + k + D.length) (hT : ∀ j, j < T.length → L[j]? = T[j]?) : setL (setL L T.length X) (T.length + k) D = T ++ (X ++ D) := by
  apply List.ext_getElem?
  intro j
  rw [setL_at, setL_at, setL_len]
  by_cases h1 : j < T.length
  · rw [if_neg (by omega), if_neg (by omega), hT j h1, List.getElem?_append_left h1]
  · rw [List.getElem?_append_right (by omega)]
    by_cases h2 : j < T.length + k
    · rw [if_neg (by omega), if_pos (by omega), List.getElem?_append_left (by omega)]
    · rw [List.getElem?_append_right (by omega)]
      by_cases h3 : j < L.length
      · rw [if_pos (by omega)]; congr 1; omega
      · rw [if_neg (by omega), if_neg (by omega), List.getElem?_eq_none (by omega), List.getElem?_eq_none (by omega)]
def insertAt {α : Type} (xs : List α) (i : Nat) (x : α) : List α := xs.take i ++ x :: xs.drop i
theorem flat_insert {α : Type} {enc : α → List Value} (xs : List α) (i : Nat) (x : α) : flat enc (insertAt xs i x) = flat enc (xs.take i) ++ (enc x ++ flat enc (xs.drop i)) := by
  unfold insertAt
  rw [flat_app]
  simp [flat]
theorem insert_len {α : Type} (xs : List α) (i : Nat) (x : α) (h : i ≤ xs.length) : (insertAt xs i x).length = xs.length + 1 := by
  unfold insertAt
  rw [List.length_append, List.length_cons, List.length_take, List.length_drop, Nat.min_eq_left h]
  omega
theorem flat_lens {α : Type} {enc : α → List Value} {k : Nat} (E : EncK enc k) (xs : List α) (i : Nat) (h : i ≤ xs.length) : (flat enc (xs.take i)).length = i * k ∧ (flat enc (xs.drop i)).length = (xs.length - i) * k ∧ flat enc xs = flat enc (xs.take i) ++ flat enc (xs.drop i) := by
  refine ⟨by rw [flat_len E, List.length_take, Nat.min_eq_left h], by rw [flat_len E, List.length_drop], by rw [← flat_app, List.take_append_drop]⟩
theorem own_drew {w : World} {base : Nat} {e : TypeId} {size : Nat} {v : Value} {n : Nat} {xs : List Value} (h : w.ownsRow base e size v n xs) : w.drew.ownsRow base e size v n xs := h
/-- One place more of a row that has room. -/
theorem own_more {α : Type} {enc : α → List Value} {k : Nat} (E : EncK enc k) {e : TypeId} {w : World} {base g c : Nat} {xs : List α} (h : Own enc k e w base (.slice (some ⟨g, 0, none⟩) xs.length c) xs) (hr : xs.length + 1 ≤ c) :
    ∃ L : List Value, w.ownsRow base e k (.slice (some ⟨g, 0, none⟩) (xs.length + 1) c) (xs.length + 1) L ∧ ∀ j, j < xs.length * k → L[j]? = (flat enc xs)[j]? := by
  rcases h.2 with ⟨h2, _⟩ | ⟨g', cap', cur, h2, hb, hg, hn, hc, hs, ht⟩
  · cases h2
  · injection h2 with h2a h2b h2c
    injection h2a with h2a
    injection h2a with h2a
    subst h2a h2c
    refine ⟨cur.toList.take ((xs.length + 1) * k), ⟨?_, .inr ⟨g, c, cur, rfl, hb, hg, hr, hc, hs, rfl⟩⟩, fun j hj => ?_⟩
    · have hcl : cur.toList.length = c * k := by rw [Array.length_toList]; exact hs
      rw [List.length_take, hcl]
      exact Nat.min_eq_left (Nat.mul_le_mul_right k hr)
    · rw [← ht, List.getElem?_take, List.getElem?_take, if_pos hj, if_pos (by rw [Nat.add_mul]; omega)]
end Go.Proofs.Ytialmfbjkegjoaa
