/- Slices that the call itself has made: owned rows of elements of k cells; append as an equation. No program in sight. -/
import Derived.Test.YtialmfbjkegjoaaK
import Derived.Maps.AppendAt
import Derived.OwnWalk
import Derived.Laws.OwnMore
set_option linter.unusedVariables false
set_option linter.unusedSimpArgs false
namespace Go.Proofs.Ytialmfbjkegjoaa
open Go.RowKit

def flat {α : Type} (enc : α → List Value) (xs : List α) : List Value := xs.flatMap enc
/-- How an element stands: k cells, each one cell. -/
structure EncK {α : Type} (enc : α → List Value) (k : Nat) : Prop where
  len : ∀ x, (enc x).length = k
  one : ∀ x, ∀ u ∈ enc x, u.oneCell' = true
  pos : 0 < k
section
variable {α : Type} {enc : α → List Value} {k : Nat}
theorem flat_len (E : EncK enc k) (xs : List α) : (flat enc xs).length = xs.length * k := by
  induction xs with
  | nil => simp [flat]
  | cons x xs ih => simp only [flat, List.flatMap_cons, List.length_append, E.len, List.length_cons] at *; rw [ih]; rw [Nat.add_mul]; omega
theorem flat_app (xs ys : List α) : flat enc (xs ++ ys) = flat enc xs ++ flat enc ys := by simp [flat]
theorem flat_at (E : EncK enc k) : ∀ (xs : List α) (i j : Nat) (x : α), xs[i]? = some x → j < k → (flat enc xs)[i * k + j]? = (enc x)[j]?
  | [], i, j, x, h, hj => by simp at h
  | y :: xs, 0, j, x, h, hj => by
    simp at h; subst h
    simp only [flat, List.flatMap_cons, Nat.zero_mul, Nat.zero_add]
    rw [List.getElem?_append_left (by rw [E.len]; exact hj)]
  | y :: xs, i + 1, j, x, h, hj => by
    have ih := flat_at E xs i j x (by simpa using h) hj
    simp only [flat, List.flatMap_cons]
    rw [List.getElem?_append_right (by rw [E.len, Nat.add_mul]; omega), E.len]
    rw [← ih]
    congr 1
    rw [Nat.add_mul]; omega
theorem flat_one (E : EncK enc k) (xs : List α) : ∀ u ∈ flat enc xs, u.oneCell' = true := by
  intro u hu
  simp only [flat, List.mem_flatMap] at hu
  obtain ⟨x, _, hx⟩ := hu
  exact E.one x u hx
theorem RdS.flat {w : World} {b off : Nat} {xs : List α} (E : EncK enc k) (h : RdS enc k w (some ⟨b, off, none⟩) xs) (j : Nat) (u : Value) (hu : (flat enc xs)[j]? = some u) : w.cell? ⟨b, off + j, none⟩ = some u := by
  have hj : j < xs.length * k := by
    have := (List.getElem?_eq_some_iff.1 hu).1
    rwa [flat_len E] at this
  have hp := E.pos
  have hdiv : j / k < xs.length := by rw [Nat.div_lt_iff_lt_mul hp]; exact hj
  have hmod : j % k < k := Nat.mod_lt _ hp
  have e : j / k * k + j % k = j := by rw [Nat.mul_comm]; exact Nat.div_add_mod j k
  obtain ⟨b', off', e', hc⟩ := h.2 (j / k) xs[j / k] (List.getElem?_eq_getElem hdiv)
  simp only [Option.some.injEq, Addr.mk.injEq, and_true] at e'
  obtain ⟨rfl, rfl⟩ := e'
  have h1 := flat_at E xs (j / k) (j % k) _ (List.getElem?_eq_getElem hdiv) hmod
  rw [e] at h1
  rw [h1] at hu
  have := hc (j % k) u hu
  rwa [Nat.add_assoc, e] at this
theorem RdS.addr {w : World} {A : Option Addr} {xs : List α} (h : RdS enc k w A xs) (hne : xs ≠ []) : ∃ b off, A = some ⟨b, off, none⟩ := by
  rcases xs with _ | ⟨x, r⟩
  · exact absurd rfl hne
  · obtain ⟨b, off, e, _⟩ := h.2 0 x rfl
    exact ⟨b, off, e⟩

/-- A row of the call's own that reads as xs. -/
def Own (enc : α → List Value) (k : Nat) (e : TypeId) (w : World) (base : Nat) (v : Value) (xs : List α) : Prop := w.ownsRow base e k v xs.length (flat enc xs)
/-- A slice value that reads as xs. -/
def SlV (enc : α → List Value) (k : Nat) (w : World) (v : Value) (xs : List α) : Prop := ∃ A c, v = .slice A xs.length c ∧ xs.length ≤ c ∧ c ≤ 9223372036854775807 ∧ RdS enc k w A xs
theorem SlV.below {w w1 : World} {v : Value} {xs : List α} (h : SlV enc k w v xs) (hb : Below w.heap.size w w1) : SlV enc k w1 v xs := by
  obtain ⟨A, c, e, h1, h2, h3⟩ := h
  exact ⟨A, c, e, h1, h2, h3.below hb⟩
theorem Own.nil (enc : α → List Value) (k : Nat) (e : TypeId) (w : World) (base : Nat) : Own enc k e w base (.slice none 0 0) [] := World.ownsRow_nil w base e k
theorem Own.reads {e : TypeId} {w : World} {base : Nat} {v : Value} {xs : List α} (E : EncK enc k) (h : Own enc k e w base v xs) : SlV enc k w v xs := by
  rcases h.2 with ⟨rfl, h0⟩ | ⟨g, cap, cur, rfl, _, hg, hn, hc, hs, ht⟩
  · obtain rfl : xs = [] := List.eq_nil_of_length_eq_zero h0
    exact ⟨none, 0, rfl, Nat.zero_le _, by omega, RdS.nil _ _ _ _⟩
  · unfold maxLen at hc
    refine ⟨_, cap, rfl, hn, hc, by omega, fun i x hx => ⟨g, 0, rfl, fun j u hu => ?_⟩⟩
    have hj : j < k := by
      have := (List.getElem?_eq_some_iff.1 hu).1
      rwa [E.len] at this
    have h1 := flat_at E xs i j x hx hj
    rw [hu] at h1
    have := h.cells (g := g) rfl (i * k + j) u h1
    rw [Addr.add_lit] at this
    rw [← this, Nat.add_assoc]
theorem Own.kept {e : TypeId} {w w' : World} {base : Nat} {v : Value} {xs : List α} {row : Option Nat} (h : Own enc k e w base v xs) (hg : w.grownBy w' row) (hne : v.ownBlock = none ∨ v.ownBlock ≠ row) : Own enc k e w' base v xs := World.ownsRow.kept h hg hne
theorem grown_below {w w1 : World} (h : Below w.heap.size w w1) (row : Option Nat) : w.grownBy w1 row := ⟨h.os, h.tape, h.output, h.size, fun k hk _ => h.block k hk⟩
theorem Own.below {e : TypeId} {w w' : World} {base : Nat} {v : Value} {xs : List α} (h : Own enc k e w base v xs) (hb : Below w.heap.size w w') : Own enc k e w' base v xs := h.kept (grown_below hb none) (by cases v.ownBlock <;> simp)
theorem Own.base_le {e : TypeId} {w : World} {base : Nat} {v : Value} {xs : List α} (h : Own enc k e w base v xs) : ∀ j, v.ownBlock = some j → base ≤ j ∧ j < w.heap.size := World.ownsRow.lt h
theorem below_grown {w0 w w1 : World} {B : Nat} {row : Option Nat} (hb : Below B w0 w) (hg : w.grownBy w1 row) (hB : B ≤ w.heap.size) (hr : ∀ j, row = some j → B ≤ j) : Below B w0 w1 := hb.grown hg hB hr
/-- append(v, ys...), v a row of the call's own. -/
theorem run_app {P : Program} (E : EncK enc k) (t ty e : TypeId) (z : Value) (bytes : Nat) (ht : P.underlying t = some (.slice e)) (hinfo : (P.info? e).map (fun i => (i.zero, i.size, i.bytes)) = some (some z, k, bytes)) (hz : z.cells.size = k)
    {w : World} {base : Nat} {v : Value} {xs ys : List α} {A : Option Addr} (HO : Own enc k e w base v xs) (HR : RdS enc k w A ys) (c : Nat) (hbytes : (xs.length + ys.length) * bytes ≤ 140737488355328) (hb0 : 0 < bytes) (hbase : base ≤ w.heap.size) :
    ∃ v' w', (Builtin.append_ #[t, t] ty #[v, .slice A ys.length c]).run P w = .ok v' w' ∧ Own enc k e w' base v' (xs ++ ys) ∧ w.grownBy w' v.ownBlock ∧ (v'.ownBlock = v.ownBlock ∨ v'.ownBlock = some w.heap.size) := by
  obtain ⟨i0, hi, hzz⟩ := Option.map_eq_some_iff.1 hinfo
  simp only [Prod.mk.injEq] at hzz
  obtain ⟨hz0, hz1, hz2⟩ := hzz
  by_cases h0 : ys = []
  · subst h0
    refine ⟨v, w, ?_, by simpa using HO, World.grownBy.refl w _, .inl rfl⟩
    rcases HO.2 with ⟨rfl, hn⟩ | ⟨g, cap, cur, rfl, _, _, hnc, _⟩
    · rcases A with _ | ad <;> simp [Builtin.append_, run_underlying ht, sizeOf, typeInfo, hi, Builtin.lenOf, Builtin.firstCells, loadCells, loadCellsFrom]
    · rcases A with _ | ad <;> simp [Builtin.append_, run_underlying ht, sizeOf, typeInfo, hi, Builtin.lenOf, Builtin.firstCells, hnc, storeCells, loadCells, loadCellsFrom]
  · obtain ⟨b, off, rfl⟩ := HR.addr h0
    have hlen : xs.length + ys.length ≤ 140737488355328 := Nat.le_trans (Nat.le_mul_of_pos_right _ hb0) hbytes
    obtain ⟨v', w', hr, h1, h2, _, h3⟩ := run_append_own_at (P := P) w base t ty e i0 z k bytes ht hi hz0 hz1 hz2 hz E.pos v xs.length (flat enc xs) HO ⟨b, off, none⟩ ys.length c (flat enc ys) (flat_len E ys)
      (fun j u hu => by rw [Addr.add_lit]; exact HR.flat E j u hu) (flat_one E ys) (by simp only [maxLen]; omega) hbytes hbase
    exact ⟨v', w', hr, by unfold Own; rw [List.length_append, flat_app]; exact h1, h2, h3⟩
/-- The same at the operation, for the walk: behind 'at_builtin'. -/
theorem wp_app {P : Program} (E : EncK enc k) {ops : Array Oper} {rest : List Oper} {o : Oper} {a : Act} {Q : Exit → Act → World → Prop} (hgd : o.guard = none) (s x : Operand) (t e : TypeId) (z : Value) (bytes : Nat)
    (ho : o.op = .call { callee := .builtin .append, args := #[s, x], argTypes := #[t, t] })
    (ht : P.underlying t = some (.slice e)) (hinfo : (P.info? e).map (fun i => (i.zero, i.size, i.bytes)) = some (some z, k, bytes)) (hz : z.cells.size = k)
    {w : World} {base : Nat} (v : Value) (xs ys : List α) (A : Option Addr) (m c : Nat) (hm : m = ys.length) (hs : a.eval s = v) (hx : a.eval x = .slice A m c) (HO : Own enc k e w base v xs) (HR : RdS enc k w A ys) (hbytes : (xs.length + ys.length) * bytes ≤ 140737488355328) (hb0 : 0 < bytes) (hbase : base ≤ w.heap.size)
    (h : ∀ v' w', Own enc k e w' base v' (xs ++ ys) → w.grownBy w' v.ownBlock → (v'.ownBlock = v.ownBlock ∨ v'.ownBlock = some w.heap.size) → wpList P ops Q rest (a.put o.dst v') w') :
    wpList P ops Q (o :: rest) a w := by
  subst hm
  obtain ⟨v', w', hr, h1, h2, h3⟩ := run_app (P := P) E t o.type e z bytes ht hinfo hz HO HR c hbytes hb0 hbase
  refine wpList_plain hgd fun K hK => ?_
  unfold Oper.wp execOp
  simp only [ho, resolve, invoke, builtin, Sem.run_bind, Sem.run_pure, Result.andThen_ok, List.map_toArray, List.map_cons, List.map_nil, hs, hx, hr]
  exact hK _ _ (h v' w' h1 h2 h3)
end

theorem encV_len (v : PV) : (encV v).length = 4 := rfl
theorem encSeenK : EncK encSeen 5 := ⟨fun _ => rfl, fun x u hu => by simp only [encSeen, encV, List.mem_cons, List.not_mem_nil, or_false] at hu; rcases hu with rfl | rfl | rfl | rfl | rfl <;> rfl, by omega⟩
theorem encChangeK : EncK encChange 6 := ⟨fun _ => rfl, fun x u hu => by simp only [encChange, encV, List.mem_cons, List.not_mem_nil, or_false] at hu; rcases hu with rfl | rfl | rfl | rfl | rfl | rfl <;> rfl, by omega⟩
end Go.Proofs.Ytialmfbjkegjoaa
