/- Arguments opened: what a slice of structs, and a struct, read as. -/
import Derived.Test.YtialmfbjkegjoaaS
import Derived.Test.YtialmfbjkegjoaaF
import Derived.Test.YtialmfbjkegjoaaM2
import Derived.Deep.Slices
import Derived.ChangeArms
import Derived.ChangeSame
import Derived.OpenShut
set_option linter.unusedVariables false
set_option linter.unusedSimpArgs false
namespace Go.Proofs.Ytialmfbjkegjoaa
open Go.RowKit

section
variable {H : Type} {enc : TypeId × Value → H} {P : Program} {w : World} {base : Nat} {spare : Nat → Bool} {held : Bool}
theorem struct_fields {t : TypeId} {fuel : Nat} {cs : List Value} {x : DataW H × List MemPlace} {fs : Array Field} (ht : P.underlying t = some (.struct fs)) (h : DataW.trod enc P w base spare held fuel t cs = some x) :
    cs.length = P.cellsOf t ∧ ∃ n, ∀ (i : Nat) (f : Field), fs[i]? = some f → ∃ y, DataW.trod enc P w base spare held n f.type ((cs.drop f.offset).take (P.cellsOf f.type)) = some y := by
  obtain ⟨xs, n, _, _, hl, hxl, hf⟩ := DataW.trod_struct ht h
  refine ⟨hl, n, fun i f hi => ?_⟩
  have hi' : i < xs.length := by rw [hxl]; exact (Array.getElem?_eq_some_iff.1 hi).1
  exact ⟨xs[i], by rw [hf i f hi, List.getElem?_eq_getElem hi']⟩
theorem open_rows {α : Type} {enc' : α → List Value} {k : Nat} (ok : α → Prop) (E : EncK enc' k) {t e : TypeId} {fuel : Nat} {cs : List Value} {x : DataW H × List MemPlace} (ht : P.underlying t = some (.slice e)) (ce : P.cellsOf e = k)
    (hr : ∀ n cs y, DataW.trod enc P w base spare held n e cs = some y → ∃ a : α, cs = enc' a ∧ ok a)
    (h : DataW.trod enc P w base spare held fuel t cs = some x) :
    ∃ A c, ∃ xs : List α, cs = [.slice A xs.length c] ∧ xs.length ≤ c ∧ c ≤ 9223372036854775807 ∧ RdS enc' k w A xs ∧ ∀ a ∈ xs, ok a := by
  rcases Deep.open_slice ht h with ⟨rfl, _⟩ | ⟨a, len, cap, m, n, D, Pl, rfl, hb, hl, hm, hmm, rfl, hx⟩
  · exact ⟨none, 0, [], rfl, Nat.le_refl _, by omega, RdS.nil _ _ _ _, by simp⟩
  · unfold maxLen at hm
    have each : ∀ i, i < len → ∃ y : α, (∀ j u, (enc' y)[j]? = some u → w.cell? (a.add (i * k + j)) = some u) ∧ ok y := by
      intro i hi
      obtain ⟨cs', h1, h2⟩ := hx i (by rw [hmm]; split <;> omega)
      obtain ⟨y, rfl, hy⟩ := hr _ _ _ h2
      rw [ce] at h1
      obtain ⟨_, hlen, hcell⟩ := World.cells?_some h1
      refine ⟨y, fun j u hu => ?_, hy⟩
      have hj : j < k := by have := (List.getElem?_eq_some_iff.1 hu).1; rwa [E.len] at this
      have := hcell j hj
      rw [Deep.add_add] at this
      rw [this, hu]
    by_cases h0 : len = 0
    · subst h0
      exact ⟨some a, cap, [], rfl, by simp, by omega, RdS.nil _ _ _ _, by simp⟩
    · obtain ⟨y0, hy0, _⟩ := each 0 (by omega)
      haveI : Inhabited α := ⟨y0⟩
      obtain ⟨f, hf⟩ := Deep.choose_lt each
      have hpos : 0 < (enc' y0).length := by rw [E.len]; exact E.pos
      have hsp : a.spot = none := by
        have := World.cell?_spot (hy0 0 _ (List.getElem?_eq_getElem hpos))
        simpa [Addr.add] using this
      obtain ⟨b, off, spot⟩ := a
      dsimp only at hsp
      subst hsp
      refine ⟨some ⟨b, off, none⟩, cap, (List.range len).map f, by simp, by simpa using hl, by omega, ⟨by simp; omega, fun i x hi => ⟨b, off, rfl, fun j u hu => ?_⟩⟩, ?_⟩
      · rw [List.getElem?_map] at hi
        by_cases hlt : i < len
        · rw [List.getElem?_range hlt] at hi
          simp only [Option.map_some, Option.some.injEq] at hi
          subst hi
          have := (hf i hlt).1 j u hu
          rw [Go.WideShapes.add_plain] at this
          rw [Nat.add_assoc]
          exact this
        · rw [List.getElem?_eq_none (by simp; omega)] at hi
          simp at hi
      · intro x hx
        obtain ⟨i, hi, rfl⟩ := List.mem_map.1 hx
        exact (hf i (List.mem_range.1 hi)).2
end
section
variable {H : Type} {enc : TypeId × Value → H} {w : World} {base : Nat} {spare : Nat → Bool} {held : Bool}
theorem list1 {cs : List Value} (h : cs.length = 1) : ∃ c0, cs = [c0] :=
  match cs, h with
  | [c0], _ => ⟨_, rfl⟩
theorem list2 {cs : List Value} (h : cs.length = 2) : ∃ c0 c1, cs = [c0, c1] :=
  match cs, h with
  | [c0, c1], _ => ⟨_, _, rfl⟩
theorem list3 {cs : List Value} (h : cs.length = 3) : ∃ c0 c1 c2, cs = [c0, c1, c2] :=
  match cs, h with
  | [c0, c1, c2], _ => ⟨_, _, _, rfl⟩
theorem list4 {cs : List Value} (h : cs.length = 4) : ∃ c0 c1 c2 c3, cs = [c0, c1, c2, c3] :=
  match cs, h with
  | [c0, c1, c2, c3], _ => ⟨_, _, _, _, rfl⟩
theorem list5 {cs : List Value} (h : cs.length = 5) : ∃ c0 c1 c2 c3 c4, cs = [c0, c1, c2, c3, c4] :=
  match cs, h with
  | [c0, c1, c2, c3, c4], _ => ⟨_, _, _, _, _, rfl⟩
theorem list6 {cs : List Value} (h : cs.length = 6) : ∃ c0 c1 c2 c3 c4 c5, cs = [c0, c1, c2, c3, c4, c5] :=
  match cs, h with
  | [c0, c1, c2, c3, c4, c5], _ => ⟨_, _, _, _, _, _, rfl⟩
theorem list7 {cs : List Value} (h : cs.length = 7) : ∃ c0 c1 c2 c3 c4 c5 c6, cs = [c0, c1, c2, c3, c4, c5, c6] :=
  match cs, h with
  | [c0, c1, c2, c3, c4, c5, c6], _ => ⟨_, _, _, _, _, _, _, rfl⟩
theorem list8 {cs : List Value} (h : cs.length = 8) : ∃ c0 c1 c2 c3 c4 c5 c6 c7, cs = [c0, c1, c2, c3, c4, c5, c6, c7] :=
  match cs, h with
  | [c0, c1, c2, c3, c4, c5, c6, c7], _ => ⟨_, _, _, _, _, _, _, _, rfl⟩
theorem ce_int : Try.prog.cellsOf 3 = 1 := by kernel_rfl
theorem ce_str : Try.prog.cellsOf 9 = 1 := by kernel_rfl
theorem ce_bool : Try.prog.cellsOf 4 = 1 := by kernel_rfl
theorem ce_V : Try.prog.cellsOf 24 = 4 := by kernel_rfl
theorem readStr {n : Nat} {cs : List Value} {y : DataW H × List MemPlace} (h : DataW.trod enc Try.prog w base spare held n 9 cs = some y) : ∃ s : ByteArray, cs = encStr s ∧ okStr s := by
  obtain ⟨s, rfl, _, hs⟩ := DataW.trod_string Try.underlying9 h
  exact ⟨s, rfl, by unfold maxLen at hs; exact hs⟩
theorem readV {n : Nat} {cs : List Value} {y : DataW H × List MemPlace} (h : DataW.trod enc Try.prog w base spare held n 24 cs = some y) : ∃ v : PV, cs = encV v ∧ okStr v.status := by
  obtain ⟨hl, m, hf⟩ := struct_fields Try.underlying24 h
  rw [ce_V] at hl
  obtain ⟨y0, g0⟩ := hf 0 _ rfl
  obtain ⟨y1, g1⟩ := hf 1 _ rfl
  obtain ⟨y2, g2⟩ := hf 2 _ rfl
  obtain ⟨y3, g3⟩ := hf 3 _ rfl
  clear hf h
  obtain ⟨c0, c1, c2, c3, rfl⟩ := list4 hl
  simp [ce_int, ce_str] at g0 g1 g2 g3
  obtain ⟨n0, e0, _⟩ := DataW.trod_int Try.underlying3 g0
  obtain ⟨n1, e1, _⟩ := DataW.trod_int Try.underlying3 g1
  obtain ⟨n2, e2, _⟩ := DataW.trod_int Try.underlying3 g2
  obtain ⟨s3, e3, hs⟩ := readStr g3
  simp [encStr] at e0 e1 e2 e3
  subst e0 e1 e2 e3
  exact ⟨⟨n0, n1, n2, s3⟩, rfl, hs⟩
theorem readSeen {n : Nat} {cs : List Value} {y : DataW H × List MemPlace} (h : DataW.trod enc Try.prog w base spare held n 62 cs = some y) : ∃ x : PSeen, cs = encSeen x ∧ okSeen x := by
  obtain ⟨hl, m, hf⟩ := struct_fields Try.underlying62 h
  rw [show Try.prog.cellsOf 62 = 5 from by kernel_rfl] at hl
  obtain ⟨y0, g0⟩ := hf 0 _ rfl
  obtain ⟨y1, g1⟩ := hf 1 _ rfl
  clear hf h
  obtain ⟨c0, c1, c2, c3, c4, rfl⟩ := list5 hl
  simp [ce_V, ce_str] at g0 g1
  obtain ⟨s, e0, hs⟩ := readStr g0
  obtain ⟨v, e1, hv⟩ := readV g1
  simp [encStr] at e0
  exact ⟨⟨s, v⟩, by rw [e0, e1]; rfl, hs, hv⟩
theorem readChange {n : Nat} {cs : List Value} {y : DataW H × List MemPlace} (h : DataW.trod enc Try.prog w base spare held n 26 cs = some y) : ∃ x : PChange, cs = encChange x ∧ okStr x.contact ∧ okStr x.value.status := by
  obtain ⟨hl, m, hf⟩ := struct_fields Try.underlying26 h
  rw [show Try.prog.cellsOf 26 = 6 from by kernel_rfl] at hl
  obtain ⟨y0, g0⟩ := hf 0 _ rfl
  obtain ⟨y1, g1⟩ := hf 1 _ rfl
  obtain ⟨y2, g2⟩ := hf 2 _ rfl
  clear hf h
  obtain ⟨c0, c1, c2, c3, c4, c5, rfl⟩ := list6 hl
  simp [ce_V, ce_str, ce_bool] at g0 g1 g2
  obtain ⟨s, e0, hs⟩ := readStr g0
  obtain ⟨b, e1, _⟩ := DataW.trod_bool Try.underlying4 g1
  obtain ⟨v, e2, hv⟩ := readV g2
  simp [encStr] at e0 e1
  exact ⟨⟨s, b, v⟩, by rw [e0, e1, e2]; rfl, hs, hv⟩
end
end Go.Proofs.Ytialmfbjkegjoaa
