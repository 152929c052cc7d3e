/- Contract of digest.Changes. -/
import Derived.Test.YtialmfbjkegjoaaQ2
import Derived.Test.YtialmfbjkegjoaaO
set_option linter.unusedVariables false
set_option linter.unusedSimpArgs false
namespace Go.Proofs.Ytialmfbjkegjoaa
open Go.RowKit

theorem eqChange (d : Nat) (w : World) (x0 y0 : ByteArray) (b c : Bool) (x1 y1 x2 y2 x3 y3 : Int) (x4 y4 : ByteArray) :
    (Op.equalIn (d + 3) 26 (.agg #[.string x0, .bool b, .int .i64 x1, .int .i64 x2, .int .i64 x3, .string x4]) (.agg #[.string y0, .bool c, .int .i64 y1, .int .i64 y2, .int .i64 y3, .string y4])).run Try.prog w = .ok (eqChangeB ⟨x0, b, ⟨x1, x2, x3, x4⟩⟩ ⟨y0, c, ⟨y1, y2, y3, y4⟩⟩) w := by
  refine ok_eq (struct_eq Try.underlying26 (by kernel_rfl) ?_) (?_ : (x0.toList == y0.toList && ((b == c) && eqVB ⟨x1, x2, x3, x4⟩ ⟨y1, y2, y3, y4⟩)) = _)
  · refine fields_more (by rfl) (by go_simp; rfl) (by go_simp; rfl) (by go_simp) ?_
    refine fields_more (by rfl) (by go_simp; rfl) (by go_simp; rfl) (by go_simp) ?_
    exact fields_one (by rfl) (by go_simp) (by go_simp) (eqV (d + 0) w _ _ _ _ _ _ _ _)
  · rw [str_beq]; simp only [eqChangeB, eqVB, PChange.mk.injEq, Bool.decide_and]; rfl
/-- A block of the call's own, cell by cell. -/
def Cells (w : World) (b : Nat) (cs : List Value) : Prop := (∀ j u, cs[j]? = some u → w.cell? ⟨b, j, none⟩ = some u) ∧ (∀ i, w.frozen? ⟨b, i, none⟩ = false) ∧ b < w.heap.size
theorem Cells.fresh (w : World) (cs : List Value) (T : TypeId) : Cells (w.alloc (.cells cs.toArray T)) w.heap.size cs := by
  refine ⟨fun j u hu => by simp [hu], fun i => by rw [frozen?_alloc_cells]; simp [World.frozen?], by simp⟩
theorem Cells.below {w w' : World} {b : Nat} {cs : List Value} (h : Cells w b cs) (hb : Below w.heap.size w w') : Cells w' b cs :=
  ⟨fun j u hu => (hb.cell (p := ⟨b, j, none⟩) h.2.2).trans (h.1 j u hu), fun i => (hb.frozen (p := ⟨b, i, none⟩) h.2.2).trans (h.2.1 i), Nat.lt_of_lt_of_le h.2.2 hb.size⟩
theorem Cells.set {w : World} {b : Nat} {cs : List Value} (h : Cells w b cs) (k : Nat) (hk : k < cs.length) (u : Value) : Cells (w.setCell ⟨b, k, none⟩ u) b (cs.set k u) := by
  refine ⟨fun j v hv => ?_, fun i => by rw [World.frozen?_setCell]; exact h.2.1 i, by simpa using h.2.2⟩
  rw [List.getElem?_set] at hv
  split at hv
  · rename_i e
    subst e
    have hv : u = v := by simpa [hk] using hv
    subst hv
    exact sc_same (h.1 k _ (List.getElem?_eq_getElem hk))
  · rename_i e
    rw [sc_other (by simp [e])]
    exact h.1 j v hv
theorem Cells.other {w : World} {b b' : Nat} {cs : List Value} (h : Cells w b cs) (hne : b' ≠ b) (k : Nat) (u : Value) : Cells (w.setCell ⟨b', k, none⟩ u) b cs := by
  refine ⟨fun j v hv => ?_, fun i => by rw [World.frozen?_setCell]; exact h.2.1 i, by simpa using h.2.2⟩
  rw [sc_other (by simp [hne])]
  exact h.1 j v hv
/-- How a table tells of a contact. -/
def tellC (t : List PSeen) (c : ByteArray) : PChange := ⟨c, (getT t c).2, (getT t c).1⟩
def chg (a b : List PSeen) (c : ByteArray) : Option PChange := if eqChangeB (tellC a c) (tellC b c) = true then none else some (tellC b c)
def changesL (a b : List PSeen) : List PChange := (mergeL (a.map (·.contact)) (b.map (·.contact))).filterMap (chg a b)
theorem mergeL_len (xs ys : List ByteArray) : (mergeL xs ys).length ≤ xs.length + ys.length := by
  unfold mergeL
  rw [List.length_map]
  refine Nat.le_trans (compact_len _) ?_
  simp [sortB]
theorem fm_next {α β : Type} (f : α → Option β) (L : List α) (k : Nat) (h : k < L.length) : (L.take (k + 1)).filterMap f = (L.take k).filterMap f ++ (f L[k]).toList := by
  rw [List.take_succ_eq_append_getElem h, List.filterMap_append]
  cases hf : f L[k] <;> simp [hf]
theorem fm_len {α β : Type} (f : α → Option β) (L : List α) (k : Nat) : ((L.take k).filterMap f).length ≤ L.length := Nat.le_trans (List.length_filterMap_le _ _) (by simp; omega)
/-- A fresh block reads as one element. -/
theorem oneRow {α : Type} {enc : α → List Value} {k : Nat} (E : EncK enc k) (W : World) (n : Nat) (hn : W.heap.size = n) (x : α) (T : TypeId) : RdS enc k (W.alloc (.cells (enc x).toArray T)) (some ⟨n, 0, none⟩) [x] := by
  subst hn
  refine ⟨by simp, fun i y hy => ⟨W.heap.size, 0, rfl, fun j u hu => ?_⟩⟩
  rcases i with _ | i
  · simp at hy
    subst hy
    simp [hu]
  · simp at hy
theorem cells_two (w : World) (c1 c2 : List Value) (T1 T2 : TypeId) : Cells ((w.alloc (.cells c1.toArray T1)).alloc (.cells c2.toArray T2)) w.heap.size c1 ∧ Cells ((w.alloc (.cells c1.toArray T1)).alloc (.cells c2.toArray T2)) (w.heap.size + 1) c2 ∧ Below w.heap.size w ((w.alloc (.cells c1.toArray T1)).alloc (.cells c2.toArray T2)) := by
  have h1 := Cells.fresh w c1 T1
  have h2 := Cells.fresh (w.alloc (.cells c1.toArray T1)) c2 T2
  have hb := (Below.refl (w.alloc (.cells c1.toArray T1)).heap.size (w.alloc (.cells c1.toArray T1))).alloc (Nat.le_refl _) (.cells c2.toArray T2)
  refine ⟨h1.below hb, by simpa using h2, ((Below.refl _ _).alloc (Nat.le_refl _) _).alloc (by simp) _⟩
def set5 (w : World) (b : Nat) (x1 x2 x3 x4 x5 : Value) : World := ((((w.setCell ⟨b, 2, none⟩ x2).setCell ⟨b, 3, none⟩ x3).setCell ⟨b, 4, none⟩ x4).setCell ⟨b, 5, none⟩ x5).setCell ⟨b, 1, none⟩ x1
theorem set5_size (w : World) (b : Nat) (x1 x2 x3 x4 x5 : Value) : (set5 w b x1 x2 x3 x4 x5).heap.size = w.heap.size := by simp [set5]
theorem set5_same {w : World} {b : Nat} {c0 c1 c2 c3 c4 c5 : Value} (h : Cells w b [c0, c1, c2, c3, c4, c5]) (x1 x2 x3 x4 x5 : Value) : Cells (set5 w b x1 x2 x3 x4 x5) b [c0, x1, x2, x3, x4, x5] :=
  ((((h.set 2 (by simp) x2).set 3 (by simp) x3).set 4 (by simp) x4).set 5 (by simp) x5).set 1 (by simp) x1
theorem set5_other {w : World} {b b' : Nat} {cs : List Value} (h : Cells w b cs) (hne : b' ≠ b) (x1 x2 x3 x4 x5 : Value) : Cells (set5 w b' x1 x2 x3 x4 x5) b cs :=
  ((((h.other hne 2 x2).other hne 3 x3).other hne 4 x4).other hne 5 x5).other hne 1 x1
theorem set5_below {B : Nat} {w0 w : World} (h : Below B w0 w) {b : Nat} (hb : B ≤ b) (x1 x2 x3 x4 x5 : Value) : Below B w0 (set5 w b x1 x2 x3 x4 x5) :=
  ((((h.setCell (p := ⟨b, 2, none⟩) hb x2).setCell (p := ⟨b, 3, none⟩) hb x3).setCell (p := ⟨b, 4, none⟩) hb x4).setCell (p := ⟨b, 5, none⟩) hb x5).setCell (p := ⟨b, 1, none⟩) hb x1
theorem infoChange : (Try.prog.info? 26).map (fun i => (i.zero, i.size, i.bytes)) = some (some (.agg #[.string ⟨#[]⟩, .bool false, .int .i64 0, .int .i64 0, .int .i64 0, .string ⟨#[]⟩]), 6, 64) := by kernel_rfl
theorem digest_Get2 (A : Option Addr) (cp : Nat) (t : List PSeen) (c : ByteArray) (w : World) (h : RdS encSeen 5 w A t) {v0 v1 v2 : Int} {v3 : ByteArray} {o : Bool} (hG : getT t c = (⟨v0, v1, v2, v3⟩, o)) :
    Calls Try.prog 29 #[.slice A t.length cp, .string c] w fun e w' => e = .returned (.tuple #[.agg #[.int .i64 v0, .int .i64 v1, .int .i64 v2, .string v3], .bool o]) ∧ Below w.heap.size w w' := by
  have := digest_Get A cp t c w h
  rw [hG] at this
  exact this
theorem Own.slice {α : Type} {enc : α → List Value} {k : Nat} (E : EncK enc k) {e : TypeId} {w : World} {base : Nat} {v : Value} {xs : List α} (h : Own enc k e w base v xs) : ∃ A c, v = .slice A xs.length c ∧ xs.length ≤ c ∧ RdS enc k w A xs := by
  obtain ⟨A, c, hv, hc, _, hr⟩ := h.reads E
  exact ⟨A, c, hv, hc, hr⟩
theorem contacts_sl (A : Option Addr) (cp : Nat) (t : List PSeen) (w : World) (h : RdS encSeen 5 w A t) (ht : t.length ≤ 100000) :
    Calls Try.prog 71 #[.slice A t.length cp] w fun e w' => ∃ A1 c1, e = .returned (.slice A1 t.length c1) ∧ RdS encStr 1 w' A1 (t.map (·.contact)) ∧ Below w.heap.size w w' := by
  refine (digest_contacts A cp t w h ht).mono ?_
  rintro e w' ⟨v, rfl, ho, hb⟩
  obtain ⟨A1, c1, rfl, _, hr⟩ := ho.slice encStrK
  exact ⟨A1, c1, by rw [List.length_map], hr, hb⟩
theorem Merge_sl (A B : Option Addr) (n m c d : Nat) (xs ys : List ByteArray) (w : World) (hn : n = xs.length) (hm : m = ys.length) (hx : RdS encStr 1 w A xs) (hy : RdS encStr 1 w B ys) (hl : xs.length + ys.length ≤ 1000000) :
    Calls Try.prog 56 #[.slice A n c, .slice B m d] w fun e w' => ∃ A1 c1, e = .returned (.slice A1 (mergeL xs ys).length c1) ∧ RdS encStr 1 w' A1 (mergeL xs ys) ∧ Below w.heap.size w w' := by
  subst hn hm
  refine (ident_Merge A B c d xs ys w hx hy hl).mono ?_
  rintro e w' ⟨v, rfl, ho, hb⟩
  obtain ⟨A1, c1, rfl, _, hr⟩ := ho.slice encStrK
  exact ⟨A1, c1, rfl, hr, hb⟩
end Go.Proofs.Ytialmfbjkegjoaa
