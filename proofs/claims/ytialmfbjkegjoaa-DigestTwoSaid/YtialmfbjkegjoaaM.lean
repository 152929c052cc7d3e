/- Contracts of digest.Get, contacts, Sum. -/
import Derived.Test.YtialmfbjkegjoaaG
import Derived.Test.YtialmfbjkegjoaaJ3
set_option linter.unusedVariables false
set_option linter.unusedSimpArgs false
namespace Go.Proofs.Ytialmfbjkegjoaa
open Go.RowKit

def getT (t : List PSeen) (c : ByteArray) : PV × Bool := match t.find? (fun x => decide (x.contact = c)) with
  | some x => (x.value, true)
  | none => (.zero, false)
theorem getT_at {t : List PSeen} {c : ByteArray} {k : Nat} (hk : k < t.length) (h : (t.take k).all (fun x => !decide (x.contact = c)) = true) (he : decide (t[k].contact = c) = true) : getT t c = (t[k].value, true) := by
  unfold getT
  have : t.find? (fun x => decide (x.contact = c)) = some t[k] := by
    have e : t = t.take k ++ t[k] :: t.drop (k + 1) := by rw [← List.drop_eq_getElem_cons hk, List.take_append_drop]
    have := congrArg (List.find? (fun x => decide (x.contact = c))) e
    rw [List.find?_append, (List.find?_eq_none (l := t.take k) (p := fun x : PSeen => decide (x.contact = c))).2 (by simpa using h), List.find?_cons_of_pos (p := fun x : PSeen => decide (x.contact = c)) he] at this
    exact this
  rw [this]
theorem getT_end {t : List PSeen} {c : ByteArray} {k : Nat} (hk : ¬ k < t.length) (h : (t.take k).all (fun x => !decide (x.contact = c)) = true) : getT t c = (.zero, false) := by
  unfold getT
  rw [List.take_of_length_le (by omega)] at h
  have : t.find? (fun x => decide (x.contact = c)) = none := (List.find?_eq_none (l := t) (p := fun x : PSeen => decide (x.contact = c))).2 (by simpa using h)
  rw [this]
def rVB (r : PV × Bool) : Ending := .returned (.tuple #[.agg (encV r.1).toArray, .bool r.2])
/-- What the first new block holds, later. -/
theorem one_cells {w w3 : World} {c1 : Array Value} {T : TypeId} (hb : Below (w.heap.size + 1) (w.alloc (.cells c1 T)) w3) :
    (∀ i, w3.frozen? ⟨w.heap.size, i, none⟩ = false) ∧ (∀ i v, c1[i]? = some v → w3.cell? ⟨w.heap.size, i, none⟩ = some v) ∧ Below w.heap.size w w3 := by
  refine ⟨fun i => ?_, fun i v hv => ?_, ?_⟩
  · rw [hb.frozen (by simp), frozen?_alloc_cells]
    simp [World.frozen?]
  · rw [hb.cell (by simp)]
    simp [hv]
  · exact ((Below.refl w.heap.size w).alloc (Nat.le_refl _) (.cells c1 T)).trans (hb.mono (Nat.le_succ _))
set_option maxHeartbeats 1000000 in
set_option maxRecDepth 100000 in
theorem digest_Get (A : Option Addr) (cp : Nat) (t : List PSeen) (c : ByteArray) (w : World) (h : RdS encSeen 5 w A t) :
    Calls Try.prog 29 #[.slice A t.length cp, .string c] w fun e w' => e = rVB (getT t c) ∧ Below w.heap.size w w' := by
  have hm := h.1
  have H := Lib.hid h
  clear h
  obtain ⟨W0, hW0⟩ : ∃ W0, W0 = w.alloc (.cells #[.int .i64 0, .int .i64 0, .int .i64 0, .string ⟨#[]⟩] 24) := ⟨_, rfl⟩
  have hs0 : Hid (W0.heap.size = w.heap.size + 1) := by rw [hW0]; simp [Hid]
  have HW0 := Lib.hid hW0
  have HN : Hid (∀ w3, Below (w.heap.size + 1) W0 w3 → (∀ i, w3.frozen? ⟨w.heap.size, i, none⟩ = false) ∧ (∀ i v, #[Value.int .i64 0, .int .i64 0, .int .i64 0, .string ⟨#[]⟩][i]? = some v → w3.cell? ⟨w.heap.size, i, none⟩ = some v) ∧ Below w.heap.size w w3) := fun w3 hb => one_cells (hW0 ▸ hb)
  clear hW0
  obtain ⟨G, hG⟩ : ∃ G, getT t c = G := ⟨_, rfl⟩
  rw [hG]
  have HG := Lib.hid hG
  clear hG
  go_enter Try.func29, Try.ntmps29
  go_wp2
  rw [← HW0.out]
  go_loopw [10] (fun i w' => ∃ k : Nat, k ≤ t.length ∧ i = .int .i64 k ∧ Hid ((t.take k).all (fun x => !decide (x.contact = c)) = true) ∧ Hid (Below (w.heap.size + 1) W0 w')) (fun i _ => t.length - (intOf i).toNat)
  case atStart => exact ⟨0, Nat.zero_le _, rfl, by simp [Hid], Below.refl _ _⟩
  case round =>
    obtain ⟨k, hk, rfl, Hk, HB⟩ := hrel
    by_cases hlt : k < t.length
    · have HBW := Lib.hid (HN.out _ HB.out).2.2
      obtain ⟨b, off, rfl, h0, h1, h2, h3, h4⟩ := (H.out.below HBW.out).seen k hlt
      have HB2 : Hid (Below (w.heap.size + 1) W0 (wr.alloc (.cells #[.string t[k].contact, .int .i64 t[k].value.show_, .int .i64 t[k].value.prio, .int .i64 t[k].value.since, .string t[k].value.status] 62))) := HB.out.alloc (by have := HB.out.size; have := hs0.out; omega) _
      obtain ⟨fz, cz, bz⟩ := HN.out _ HB2.out
      have k0 := cz 0 _ rfl
      have k1 := cz 1 _ rfl
      have k2 := cz 2 _ rfl
      have k3 := cz 3 _ rfl
      have f0 := fz 0
      have f1 := fz 1
      have f2 := fz 2
      have f3 := fz 3
      simp only [List.getElem_toArray, List.getElem_cons_zero, List.getElem_cons_succ] at k0 k1 k2 k3
      have HBZ := Lib.hid bz
      clear fz cz bz
      rcases he : decide (t[k].contact = c) with _ | _
      · have he2 : (t[k].contact.toList == c.toList) = false := by rw [str_beq]; exact he
        go_wp2
        exact ⟨⟨k + 1, by omega, by go_num, all_next hlt Hk.out (by rw [he]; rfl), HB2.out⟩, by simp [intOf]; omega⟩
      · have he2 : (t[k].contact.toList == c.toList) = true := by rw [str_beq]; exact he
        have hG : G = (t[k].value, true) := by rw [← HG.out, getT_at hlt Hk.out he]
        have HG2 := Lib.hid hG
        clear hG
        go_wp2
        refine bodyPost_ret (v := .tuple #[.agg (encV t[k].value).toArray, .bool true]) ?_ rfl ?_
        · rw [results_cell_tmp rfl]
          go_simp
          rfl
        · refine ⟨by rw [HG2.out]; rfl, ?_⟩
          exact (((HBZ.out.setCell (p := ⟨w.heap.size, 0, none⟩) (Nat.le_refl _) _).setCell (p := ⟨w.heap.size, 1, none⟩) (Nat.le_refl _) _).setCell (p := ⟨w.heap.size, 2, none⟩) (Nat.le_refl _) _).setCell (p := ⟨w.heap.size, 3, none⟩) (Nat.le_refl _) _
    · obtain ⟨fz, cz, bz⟩ := HN.out _ HB.out
      have k0 := cz 0 _ rfl
      have k1 := cz 1 _ rfl
      have k2 := cz 2 _ rfl
      have k3 := cz 3 _ rfl
      have f0 := fz 0
      have f1 := fz 1
      have f2 := fz 2
      have f3 := fz 3
      simp only [List.getElem_toArray, List.getElem_cons_zero, List.getElem_cons_succ] at k0 k1 k2 k3
      have HBZ := Lib.hid bz
      clear fz cz bz
      have hG : G = (.zero, false) := by rw [← HG.out, getT_end hlt Hk.out]
      have HG2 := Lib.hid hG
      clear hG
      go_wp2
      refine bodyPost_ret (v := .tuple #[.agg (encV PV.zero).toArray, .bool false]) ?_ rfl ?_
      · rw [results_cell_tmp rfl]
        go_simp
        rfl
      · refine ⟨by rw [HG2.out]; rfl, ?_⟩
        exact (((HBZ.out.setCell (p := ⟨w.heap.size, 0, none⟩) (Nat.le_refl _) _).setCell (p := ⟨w.heap.size, 1, none⟩) (Nat.le_refl _) _).setCell (p := ⟨w.heap.size, 2, none⟩) (Nat.le_refl _) _).setCell (p := ⟨w.heap.size, 3, none⟩) (Nat.le_refl _) _
end Go.Proofs.Ytialmfbjkegjoaa
