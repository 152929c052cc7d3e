/- Contract of slices.Concat at two rows of strings. -/
import Derived.Test.YtialmfbjkegjoaaP
import Derived.Test.YtialmfbjkegjoaaM2
set_option linter.unusedVariables false
set_option linter.unusedSimpArgs false
namespace Go.Proofs.Ytialmfbjkegjoaa
open Go.RowKit

theorem alloc_heap (w : World) (o : Obj) : (w.alloc o).heap[w.heap.size]? = some o := by
  show (w.heap.push o)[w.heap.size]? = _
  exact Array.getElem?_push_size
/-- slices.Grow(nil, n). -/
theorem grow_nil (n : Nat) (w : World) (hn : n ≤ 1000000) :
    Calls Try.prog 113 #[.slice none 0 0, .int .i64 n] w fun e w' => ∃ v, e = .returned v ∧ Own encStr 1 9 w' w.heap.size v [] ∧ Below w.heap.size w w' := by
  by_cases h0 : n = 0
  · subst h0
    refine (Any8.slices_Grow_room Try.laysGrow none 0 0 0 w (by omega) (by omega) (by omega) (by omega)).mono ?_
    rintro e w' ⟨rfl, rfl⟩
    exact ⟨_, rfl, Own.nil _ _ _ _ _, Below.refl _ _⟩
  · obtain ⟨i0, hi, hz0, hz1, hz2⟩ := info_parts infoStr
    refine (Any8.slices_Grow_grow Try.laysGrow i0 (.string ⟨#[]⟩) hi hz0 (by omega) none 0 0 n [] w (by omega) (by omega) (by rw [hz2]; omega) (by omega) (by simp) (fun _ => rfl) (by simp)).mono ?_
    rintro e w' ⟨rfl, rfl⟩
    refine ⟨_, rfl, ?_, ?_⟩
    · refine ⟨rfl, .inr ⟨w.heap.size, _, _, rfl, Nat.le_refl _, alloc_heap w.drew _, Nat.zero_le _, grownCap_le_maxLen w _ _ _ (by unfold maxLen; omega), ?_, rfl⟩⟩
      have hg := grownCap_ge w (0 + n) 0 9
      show (#[] ++ Builtin.zeroCells (Value.string ⟨#[]⟩).cells (0 + n - 0) ++ Builtin.zeroCells (Value.string ⟨#[]⟩).cells (grownCap w (0 + n) 0 9 - (0 + n))).size = grownCap w (0 + n) 0 9 * 1
      generalize grownCap w (0 + n) 0 9 = G at hg
      rw [Array.size_append, Array.size_append, size_zeroCells, size_zeroCells]
      simp only [Value.cells, List.size_toArray, List.length_cons, List.length_nil]
      omega
    · exact ((Below.refl w.heap.size w).drew).alloc (Nat.le_refl _) _
set_option maxHeartbeats 1000000 in
set_option maxRecDepth 100000 in
theorem concat2 (A B : Option Addr) (c d C : Nat) (xs ys : List ByteArray) (w : World) (hx : RdS encStr 1 w A xs) (hy : RdS encStr 1 w B ys) (hl : xs.length + ys.length ≤ 1000000)
    (h0 : w.cell? ⟨C, 0, none⟩ = some (.slice A xs.length c)) (h1 : w.cell? ⟨C, 1, none⟩ = some (.slice B ys.length d)) :
    Calls Try.prog 93 #[.slice (some ⟨C, 0, none⟩) 2 2] w fun e w' => ∃ v, e = .returned v ∧ Own encStr 1 9 w' w.heap.size v (xs ++ ys) ∧ Below w.heap.size w w' := by
  have X := Lib.hid hx
  have Y := Lib.hid hy
  clear hx hy
  have hG := grow_nil (xs.length + ys.length) w hl
  rw [Int.natCast_add] at hG
  have HG := Lib.hid hG
  have HCh0 := Lib.hid h0
  have HCh1 := Lib.hid h1
  clear hG
  go_enter Try.func93, Try.ntmps93
  go_wp2
  go_loop [3, 11] (fun sz i => (i = .int .i64 0 ∧ sz = .int .i64 0) ∨ (i = .int .i64 1 ∧ sz = .int .i64 xs.length) ∨ (i = .int .i64 2 ∧ sz = .int .i64 ((xs.length : Int) + ys.length))) (fun _ i => 2 - (intOf i).toNat)
  case atStart => exact Or.inl ⟨rfl, rfl⟩
  case round =>
    rcases hrel with ⟨rfl, rfl⟩ | ⟨rfl, rfl⟩ | ⟨rfl, rfl⟩
    · go_wp2
      exact ⟨Or.inr (Or.inl ⟨rfl, rfl⟩), by decide⟩
    · go_wp2
      exact ⟨Or.inr (Or.inr ⟨rfl, rfl⟩), by decide⟩
    · go_wp2_with (go_at_call 113; refine HG.out.mono ?_; rintro e w1 ⟨v1, rfl, ho1, hb1⟩; have HO1 := Lib.hid ho1; have HB1 := Lib.hid hb1; clear ho1 hb1)
      go_loopw [6, 27] (fun vo i wr => ∃ (v : Value) (zs : List ByteArray), v = vo ∧ ((i = .int .i64 0 ∧ zs = []) ∨ (i = .int .i64 1 ∧ zs = xs) ∨ (i = .int .i64 2 ∧ zs = xs ++ ys)) ∧ Hid (Own encStr 1 9 wr w.heap.size v zs) ∧ Hid (Below w.heap.size w wr)) (fun _ i _ => 2 - (intOf i).toNat)
      case atStart => exact ⟨_, [], rfl, Or.inl ⟨rfl, rfl⟩, HO1.out, HB1.out⟩
      case round =>
        obtain ⟨v, zs, rfl, hcase, HO, HB⟩ := hrel
        have hsz := HB.out.size
        rcases hcase with ⟨rfl, rfl⟩ | ⟨rfl, rfl⟩ | ⟨rfl, rfl⟩
        · have hcell := HB.out.cell (World.block_lt_of_cell? w _ h0)
          rw [HCh0.out] at hcell
          have HLN : Hid ((([] : List ByteArray).length + xs.length) * 16 ≤ 140737488355328) := by show _ ≤ _; (try simp only [List.length_nil]); omega
          go_wp2_with (at_builtin; refine wp_app encStrK rfl _ _ 45 9 (.string ⟨#[]⟩) 16 rfl Try.underlying45 infoStr rfl _ ([] : List ByteArray) xs _ _ _ rfl rfl rfl HO.out (X.out.below HB.out) HLN.out (by omega) hsz ?_; intro v2 w2 ho hg hat; have HO2 := Lib.hid ho; have HG2 := Lib.hid (below_grown HB.out hg hsz (fun j hj => (HO.out.base_le j hj).1)); clear ho hg hat)
          exact ⟨⟨v2, xs, rfl, Or.inr (Or.inl ⟨rfl, rfl⟩), by have := HO2.out; rwa [List.nil_append] at this, HG2.out⟩, by decide⟩
        · have hcell := HB.out.cell (World.block_lt_of_cell? w _ h1)
          rw [HCh1.out] at hcell
          have HLN : Hid ((zs.length + ys.length) * 16 ≤ 140737488355328) := by show _ ≤ _; (try simp only [List.length_nil]); omega
          go_wp2_with (at_builtin; refine wp_app encStrK rfl _ _ 45 9 (.string ⟨#[]⟩) 16 rfl Try.underlying45 infoStr rfl _ (zs : List ByteArray) ys _ _ _ rfl rfl rfl HO.out (Y.out.below HB.out) HLN.out (by omega) hsz ?_; intro v2 w2 ho hg hat; have HO2 := Lib.hid ho; have HG2 := Lib.hid (below_grown HB.out hg hsz (fun j hj => (HO.out.base_le j hj).1)); clear ho hg hat)
          exact ⟨⟨v2, zs ++ ys, rfl, Or.inr (Or.inr ⟨rfl, rfl⟩), HO2.out, HG2.out⟩, by decide⟩
        · go_wp2
          go_ret
          exact ⟨v, rfl, HO.out, HB.out⟩
end Go.Proofs.Ytialmfbjkegjoaa
