/- Contracts of package slices' functions at slices of rollcall/api.Seen. -/
import Derived.Test.YtialmfbjkegjoaaProg
import Derived.Test.YtialmfbjkegjoaaS3
import Derived.KernelRfl
set_option linter.unusedVariables false
set_option linter.unusedSimpArgs false
namespace Go.Proofs.Ytialmfbjkegjoaa
open Go.RowKit
theorem infoSeen : (Try.prog.info? 62).map (fun i => (i.zero, i.size, i.bytes)) = some (some (.agg #[.string ⟨#[]⟩, .int .i64 0, .int .i64 0, .int .i64 0, .string ⟨#[]⟩]), 5, 56) := by kernel_rfl
theorem sizeSeen : (Try.prog.info? 62).map (·.size) = some 5 := by kernel_rfl
theorem zoneSeen : ∀ u ∈ (Value.cells (.agg #[.string ⟨#[]⟩, .int .i64 0, .int .i64 0, .int .i64 0, .string ⟨#[]⟩])).toList, u.oneCell' = true := by intro u hu; simp only [Value.cells, List.mem_cons, List.not_mem_nil, or_false] at hu; rcases hu with rfl | rfl | rfl | rfl | rfl <;> rfl
set_option maxHeartbeats 1000000 in set_option maxRecDepth 100000 in
theorem CloneSeen (A : Option Addr) (c : Nat) (xs : List PSeen) (w : World) (h : RdS encSeen 5 w A xs) (hc : xs.length ≤ c) (hl : xs.length ≤ 1000000) :
    Calls Try.prog 34 #[.slice A xs.length c] w fun e w' => ∃ v, e = .returned v ∧ Own encSeen 5 62 w' w.heap.size v xs ∧ Below w.heap.size w w' := by
  have hnil := fun (W : World) (a : Option Addr) (n m : Nat) => Lib.run_eql_slice_nil (P := Try.prog) W 22 62 a n m 0 0 Try.underlying22
  rcases A with _ | ad
  · obtain rfl : xs = [] := by
      rcases xs with _ | ⟨x, r⟩
      · rfl
      · obtain ⟨b, off, e, _⟩ := h.2 0 x rfl; cases e
    go_enter Try.func34, Try.ntmps34
    go_wp2
    go_ret
    exact ⟨_, rfl, Own.nil _ _ _ _ _, Below.refl _ _⟩
  · have hB : Below w.heap.size w (w.alloc (.cells #[] 62)) := (Below.refl _ _).alloc (Nat.le_refl _) _
    have hO : Own encSeen 5 62 (w.alloc (.cells #[] 62)) w.heap.size (.slice (some ⟨w.heap.size, 0, none⟩) 0 0) ([] : List PSeen) := World.ownsRow_made w #[] 0 (Nat.le_refl _) (by unfold maxLen; omega) (by simp)
    have H := Lib.hid (h.below hB)
    have HB := Lib.hid hB
    have HO := Lib.hid hO
    clear hB hO h
    go_enter Try.func34, Try.ntmps34
    go_wp2_with (at_builtin; refine wp_app encSeenK rfl _ _ 22 62 (.agg #[.string ⟨#[]⟩, .int .i64 0, .int .i64 0, .int .i64 0, .string ⟨#[]⟩]) 56 rfl Try.underlying22 infoSeen rfl _ [] xs _ _ c rfl rfl rfl HO.out H.out (by simp only [List.length_nil]; omega) (by omega) (by simp) ?_; intro v' w1 ho hg hat; have HO1 := Lib.hid ho; have HG := Lib.hid hg; clear ho hg hat)
    go_ret
    exact ⟨_, rfl, by simpa using HO1.out, HB.out.grown HG.out (by simp) (fun j hj => (HO.out.base_le j hj).1)⟩

set_option maxHeartbeats 2000000 in set_option maxRecDepth 100000 in
theorem InsertSeen_room (g c i vb : Nat) (xs : List PSeen) (x : PSeen) (w : World) (base : Nat) (h : Own encSeen 5 62 w base (.slice (some ⟨g, 0, none⟩) xs.length c) xs) (hi : i < xs.length) (hr : xs.length + 1 ≤ c) (hc63 : c ≤ 9223372036854775807)
    (hv : w.heap[vb]? = some (.cells (encSeen x).toArray 62 (0, 0))) (hne : vb ≠ g) :
    Calls Try.prog 37 #[.slice (some ⟨g, 0, none⟩) xs.length c, .int .i64 i, .slice (some ⟨vb, 0, none⟩) 1 1] w fun e w' => e = .returned (.slice (some ⟨g, 0, none⟩) (xs.length + 1) c) ∧ Own encSeen 5 62 w' base (.slice (some ⟨g, 0, none⟩) (xs.length + 1) c) (insertAt xs i x) ∧ w.grownBy w' (some g) := by
  have hz2 : ((i : Int) == (xs.length : Int)) = false := beq_eq_false_iff_ne.2 (by omega)
  have hci : ¬ c = i := by omega
  have hci1 : ¬ c = i + 1 := by omega
  have hgb : ∃ cur, w.heap[g]? = some (.cells cur 62 (0, 0)) ∧ cur.size = c * 5 := by
    rcases h.2 with ⟨h2, _⟩ | ⟨g', cap', cur, h2, hb, hg, hn, hc, hs, ht⟩
    · cases h2
    · injection h2 with h2a h2b h2c
      injection h2a with h2a
      injection h2a with h2a
      subst h2a h2c
      exact ⟨cur, hg, hs⟩
  obtain ⟨cur, hg, hcs⟩ := hgb
  have hov : ∀ lb cb, (callFunc 75 #[.slice (some ⟨vb, 0, none⟩) 1 1, .slice (some ⟨g, (i + 1) * 5, none⟩) lb cb]).run Try.prog w = .ok (.value (.bool false)) w := fun lb cb => by
    rw [run_callFunc_extern Try.func75 (by kernel_rfl) (by kernel_rfl) (by kernel_rfl) (e := Extern.SlicesOverlaps.overlaps #[22, 22] #[4]) (by kernel_rfl),
      Lib.run_overlaps_apart w 22 4 62 Try.underlying22 5 Try.sizeOf62 ⟨vb, 0, none⟩ ⟨g, (i + 1) * 5, none⟩ 1 1 lb cb hne 62 62 5 (c * 5) (by simp only [World.shape?, hv]; rfl) (by simp only [World.shape?, hg, hcs]) (by omega) (by simp only [World.frozen?, hv]; rfl) (by simp only [World.frozen?, hv]; rfl)]
    rfl
  obtain ⟨L0, hL0, hL1⟩ := own_more encSeenK h hr
  obtain ⟨lt, ld, lf⟩ := flat_lens encSeenK xs i (by omega)
  have hLl : L0.length = (flat encSeen (xs.take i)).length + 5 + (flat encSeen (xs.drop i)).length := by rw [hL0.1, lt, ld]; omega
  have hLT : ∀ j, j < (flat encSeen (xs.take i)).length → L0[j]? = (flat encSeen (xs.take i))[j]? := fun j hj => by
    rw [hL1 j (by rw [lt] at hj; omega), lf, List.getElem?_append_left hj]
  have hLD : ∀ j u, (flat encSeen (xs.drop i))[j]? = some u → L0[i * 5 + j]? = some u := fun j u hu => by
    have hj := (List.getElem?_eq_some_iff.1 hu).1
    rw [ld] at hj
    rw [hL1 _ (by omega), lf, List.getElem?_append_right (by rw [lt]; omega), lt, Nat.add_sub_cancel_left, hu]
  have s1 := own_setCells (flat encSeen (xs.drop i)) ((i + 1) * 5) w.drew L0 (own_drew hL0)
  have hcp1 : ∀ ty dc sc, (Builtin.copy_ #[22, 22] ty #[.slice (some ⟨g, (i + 1) * 5, none⟩) (xs.length - i) dc, .slice (some ⟨g, i * 5, none⟩) (xs.length + 1 - i) sc]).run Try.prog w.drew = .ok (goInt (xs.length - i : Nat)) (w.drew.setCells g ((i + 1) * 5) (flat encSeen (xs.drop i))) := fun ty dc sc =>
    run_copy_k w.drew 22 22 ty 62 5 g ((i + 1) * 5) _ dc _ sc (xs.length - i) _ _ Try.underlying22 sizeSeen (by simp only [Nat.min_def]; split <;> omega) ld ⟨g, i * 5, none⟩ rfl
      (fun j u hu => by
        rw [Addr.add_lit]
        show w.cell? _ = _
        have hj := (List.getElem?_eq_some_iff.1 hu).1
        rw [ld] at hj
        rw [hL0.cellAt _ (by omega), hLD j u hu])
      (by rw [ld]; exact own_there (own_drew hL0) _ _ (by omega)) (flat_one encSeenK _)
  obtain ⟨W1, hW1⟩ : ∃ W1, W1 = w.drew.setCells g ((i + 1) * 5) (flat encSeen (xs.drop i)) := ⟨_, rfl⟩
  rw [← hW1] at hcp1 s1
  have s2 := own_setCells (encSeen x) (i * 5) W1 _ s1.1
  have hvc : ∀ j u, (encSeen x)[j]? = some u → W1.cell? ⟨vb, j, none⟩ = some u := fun j u hu => by
    have hb : W1.heap[vb]? = w.heap[vb]? := s1.2.block vb (Array.getElem?_eq_some_iff.1 hv).1 (by simpa using hne)
    simp only [World.cell?, hb, hv]
    simpa using hu
  have hcp2 : ∀ ty dc, (Builtin.copy_ #[22, 22] ty #[.slice (some ⟨g, i * 5, none⟩) (xs.length + 1 - i) dc, .slice (some ⟨vb, 0, none⟩) 1 1]).run Try.prog W1 = .ok (goInt (1 : Nat)) (W1.setCells g (i * 5) (encSeen x)) := fun ty dc =>
    run_copy_k W1 22 22 ty 62 5 g (i * 5) _ dc _ 1 1 _ _ Try.underlying22 sizeSeen (by simp only [Nat.min_def]; split <;> omega) (encSeenK.len x) ⟨vb, 0, none⟩ rfl
      (fun j u hu => by rw [Addr.add_lit, Nat.zero_add]; exact hvc j u hu)
      (by rw [encSeenK.len]; exact own_there s1.1 _ _ (by omega)) (encSeenK.one x)
  obtain ⟨W2, hW2⟩ : ∃ W2, W2 = W1.setCells g (i * 5) (encSeen x) := ⟨_, rfl⟩
  rw [← hW2] at hcp2 s2
  have hfin : Own encSeen 5 62 W2 base (.slice (some ⟨g, 0, none⟩) (xs.length + 1) c) (insertAt xs i x) := by
    unfold Own
    rw [insert_len xs i x (by omega), flat_insert]
    have := splice_eq L0 (flat encSeen (xs.take i)) (encSeen x) (flat encSeen (xs.drop i)) 5 (encSeenK.len x) hLl hLT
    rw [lt] at this
    rw [← this, show i * 5 + 5 = (i + 1) * 5 by omega]
    exact s2.1
  have HF := Lib.hid hfin
  have HG : Hid (w.grownBy W2 (some g)) := (grown_below (w := w) ((Below.refl _ _).drew) (some g)).trans (s1.2.trans s2.2)
  clear h hg hcs hL0 hL1 hLl hLT hLD s1 s2 hvc hfin hW1 hW2 lt ld lf hv
  go_enter Try.func37, Try.ntmps37
  go_wp2_with (simp only [hov])
  have hw1 : IntKind.i64.wrap ((i : Int) + 1) = (i : Int) + 1 := by rw [IntKind.wrap_i64]; omega
  have hb1 : (0 : Int) ≤ (i : Int) + 1 := by omega
  have htn : ((i : Int) + 1).toNat = i + 1 := by omega
  have hb3 : (i : Int) + 1 ≤ (xs.length : Int) + 1 := by omega
  have hb4 : (i : Int) ≤ (xs.length : Int) + 1 := by omega
  have hin : i ≤ xs.length := by omega
  go_region_law (refine step_copy_runI rfl _ _ 22 22 rfl (.slice (some ⟨g, (i + 1) * 5, none⟩) (xs.length - i) (c - (i + 1))) (.slice (some ⟨g, i * 5, none⟩) (xs.length + 1 - i) (c - i)) (by simp [Act.eval, Act.put]) (by simp [Act.eval, Act.put]) (hcp1 _ _ _) ?_)
  go_wp2_with (at_builtin; refine wpList_copy_runI _ rfl _ _ 22 22 rfl _ _ rfl rfl (hcp2 _ _) ?_)
  go_ret
  exact ⟨rfl, HF.out, HG.out⟩
theorem oneSeen {w : World} {vb : Nat} {x : PSeen} (hv : w.heap[vb]? = some (.cells (encSeen x).toArray 62 (0, 0))) : RdS encSeen 5 w (some ⟨vb, 0, none⟩) [x] := by
  refine ⟨by simp, fun i y hy => ⟨vb, 0, rfl, fun j u hu => ?_⟩⟩
  rcases i with _ | i
  · simp at hy
    subst hy
    simp only [World.cell?, hv]
    simpa using hu
  · simp at hy
set_option maxHeartbeats 2000000 in set_option maxRecDepth 100000 in
theorem InsertSeen_end (v : Value) (vb : Nat) (xs : List PSeen) (x : PSeen) (w : World) (base : Nat) (h : Own encSeen 5 62 w base v xs) (hl : xs.length ≤ 1000000) (hbase : base ≤ w.heap.size)
    (hv : w.heap[vb]? = some (.cells (encSeen x).toArray 62 (0, 0))) :
    Calls Try.prog 37 #[v, .int .i64 xs.length, .slice (some ⟨vb, 0, none⟩) 1 1] w fun e w' => ∃ v', e = .returned v' ∧ Own encSeen 5 62 w' base v' (insertAt xs xs.length x) ∧ w.grownBy w' v.ownBlock := by
  obtain ⟨A, c, rfl, hnc, hc63, hrd⟩ := h.reads encSeenK
  have HO := Lib.hid h
  have HV := Lib.hid (oneSeen hv)
  have hi : insertAt xs xs.length x = xs ++ [x] := by unfold insertAt; rw [List.take_length, List.drop_length]
  rw [hi]
  clear h hv hrd hi
  have hz2 : ((xs.length : Int) == (xs.length : Int)) = true := by simp
  by_cases hcx : c = xs.length
  all_goals
    have HCX := Lib.hid hcx
    rcases A with _ | ad
    all_goals
      go_enter Try.func37, Try.ntmps37
      go_wp2_with (at_builtin; refine wp_app encSeenK rfl _ _ 22 62 (.agg #[.string ⟨#[]⟩, .int .i64 0, .int .i64 0, .int .i64 0, .string ⟨#[]⟩]) 56 rfl Try.underlying22 infoSeen rfl _ xs [x] _ _ _ rfl rfl rfl HO.out HV.out (by simp only [List.length_cons, List.length_nil]; omega) (by omega) hbase ?_; intro v' w1 ho hg hat; have HO1 := Lib.hid ho; have HG := Lib.hid hg; clear ho hg hat)
      all_goals go_ret
      all_goals exact ⟨_, rfl, HO1.out, HG.out⟩
set_option maxHeartbeats 4000000 in set_option maxRecDepth 100000 in
theorem InsertSeen_grow (g i vb : Nat) (xs : List PSeen) (x : PSeen) (w : World) (base : Nat) (h : Own encSeen 5 62 w base (.slice (some ⟨g, 0, none⟩) xs.length xs.length) xs) (hi : i < xs.length) (hl : xs.length ≤ 1000000) (hbase : base ≤ w.heap.size)
    (hv : w.heap[vb]? = some (.cells (encSeen x).toArray 62 (0, 0))) :
    Calls Try.prog 37 #[.slice (some ⟨g, 0, none⟩) xs.length xs.length, .int .i64 i, .slice (some ⟨vb, 0, none⟩) 1 1] w fun e w' => ∃ v', e = .returned v' ∧ Own encSeen 5 62 w' base v' (insertAt xs i x) ∧ w.grownBy w' (some g) := by
  have hz2 : ((i : Int) == (xs.length : Int)) = false := beq_eq_false_iff_ne.2 (by omega)
  obtain ⟨i0, hi0, hzz⟩ := Option.map_eq_some_iff.1 infoSeen
  simp only [Prod.mk.injEq] at hzz
  obtain ⟨hz0, hzs, hzb⟩ := hzz
  obtain ⟨lt, ld, lf⟩ := flat_lens encSeenK xs i (by omega)
  have hgl : g < w.heap.size := (h.base_le g rfl).2
  have hvl : vb < w.heap.size := (Array.getElem?_eq_some_iff.1 hv).1
  have hrg := h.reads encSeenK
  have hold : (Builtin.firstCells i0.size i (.slice (some ⟨g, 0, none⟩) i xs.length)).run Try.prog w.drew = .ok (flat encSeen (xs.take i)).toArray w.drew := by
    rw [hzs]
    refine run_firstCells_some w.drew 5 i ⟨g, 0, none⟩ i _ _ lt (fun j u hu => ?_)
    rw [Addr.add_lit, Nat.zero_add]
    show w.cell? _ = _
    have hj := (List.getElem?_eq_some_iff.1 hu).1
    rw [lt] at hj
    rw [World.ownsRow.cellAt h j (by omega), lf, List.getElem?_append_left (by rw [lt]; exact hj), hu]
  have hrz : ∀ ty, (Builtin.append_ #[22, 3] ty #[.slice (some ⟨g, 0, none⟩) i xs.length, .int .i64 ((xs.length : Int) + 1 - (i : Int))]).run Try.prog w = .ok (.slice (some ⟨w.heap.size, 0, none⟩) (xs.length + 1) (grownCap w (xs.length + 1) xs.length 62))
      (w.drew.alloc (.cells ((flat encSeen (xs.take i)).toArray ++ Builtin.zeroCells (Value.cells (.agg #[.string ⟨#[]⟩, .int .i64 0, .int .i64 0, .int .i64 0, .string ⟨#[]⟩])) (xs.length + 1 - i) ++ Builtin.zeroCells (Value.cells (.agg #[.string ⟨#[]⟩, .int .i64 0, .int .i64 0, .int .i64 0, .string ⟨#[]⟩])) (grownCap w (xs.length + 1) xs.length 62 - (xs.length + 1))) 62)) := fun ty => by
    have h1 := Lib.run_append_grow_zeros w 22 3 ty 62 i0 _ .i64 .i64 Try.underlying22 Try.underlying3 hi0 hz0 (some ⟨g, 0, none⟩) i xs.length _ hold (xs.length + 1 - i) (by omega) (by omega) (by omega) (by omega) (by rw [hzb]; omega) (by rw [hzb]; exact growslice_fits (by omega) (by omega))
    rw [show i + (xs.length + 1 - i) = xs.length + 1 by omega] at h1
    rw [show (xs.length : Int) + 1 - (i : Int) = ((xs.length + 1 - i : Nat) : Int) by omega]
    exact h1
  have hGn := grownCap_ge w (xs.length + 1) xs.length 62
  have hGm := grownCap_le_maxLen w (xs.length + 1) xs.length 62 (by unfold maxLen; omega)
  generalize grownCap w (xs.length + 1) xs.length 62 = G at hrz hGn hGm
  have hGm2 : G ≤ 9223372036854775807 := by unfold maxLen at hGm; omega
  obtain ⟨ROW, hROW⟩ : ∃ ROW : Array Value, ROW = (flat encSeen (xs.take i)).toArray ++ Builtin.zeroCells (Value.cells (.agg #[.string ⟨#[]⟩, .int .i64 0, .int .i64 0, .int .i64 0, .string ⟨#[]⟩])) (xs.length + 1 - i) ++ Builtin.zeroCells (Value.cells (.agg #[.string ⟨#[]⟩, .int .i64 0, .int .i64 0, .int .i64 0, .string ⟨#[]⟩])) (G - (xs.length + 1)) := ⟨_, rfl⟩
  rw [← hROW] at hrz
  have hRs : ROW.size = G * 5 := by
    rw [hROW]
    simp only [Array.size_append, List.size_toArray, size_zeroCells, lt]
    simp only [Value.cells, List.size_toArray, List.length_cons, List.length_nil]
    omega
  have hRt : ∀ j, j < (flat encSeen (xs.take i)).length → (ROW.toList.take ((xs.length + 1) * 5))[j]? = (flat encSeen (xs.take i))[j]? := fun j hj => by
    rw [List.getElem?_take, if_pos (by rw [lt] at hj; omega), hROW]
    rw [Array.toList_append, Array.toList_append, List.append_assoc, List.getElem?_append_left (by simpa using hj)]
  obtain ⟨W1, hW1⟩ : ∃ W1, W1 = w.drew.alloc (.cells ROW 62) := ⟨_, rfl⟩
  rw [← hW1] at hrz
  have o1 : W1.ownsRow base 62 5 (.slice (some ⟨w.heap.size, 0, none⟩) (xs.length + 1) G) (xs.length + 1) (ROW.toList.take ((xs.length + 1) * 5)) := by
    rw [hW1]
    refine ⟨?_, .inr ⟨w.heap.size, G, ROW, rfl, hbase, heap_alloc_new w.drew _, hGn, hGm, hRs, rfl⟩⟩
    have hcl : ROW.toList.length = G * 5 := by rw [Array.length_toList]; exact hRs
    rw [List.length_take, hcl]
    exact Nat.min_eq_left (Nat.mul_le_mul_right _ hGn)
  have g1 : ∀ row, w.grownBy W1 row := fun row => by
    rw [hW1]
    exact (grown_below (w := w) ((Below.refl _ _).drew) row).trans (World.grownBy_alloc _ _ _)
  have s1 := own_setCells (encSeen x) (i * 5) W1 _ o1
  have hcpA : ∀ ty dc, (Builtin.copy_ #[22, 22] ty #[.slice (some ⟨w.heap.size, i * 5, none⟩) (xs.length + 1 - i) dc, .slice (some ⟨vb, 0, none⟩) 1 1]).run Try.prog W1 = .ok (goInt (1 : Nat)) (W1.setCells w.heap.size (i * 5) (encSeen x)) := fun ty dc =>
    run_copy_k W1 22 22 ty 62 5 w.heap.size (i * 5) _ dc _ 1 1 _ _ Try.underlying22 sizeSeen (by simp only [Nat.min_def]; split <;> omega) (encSeenK.len x) ⟨vb, 0, none⟩ rfl
      (fun j u hu => by
        have hb : W1.heap[vb]? = w.heap[vb]? := (g1 none).block vb hvl (by simp)
        rw [Addr.add_lit, Nat.zero_add]
        simp only [World.cell?, hb, hv]
        simpa using hu)
      (by rw [encSeenK.len]; exact own_there o1 _ _ (by omega)) (encSeenK.one x)
  obtain ⟨W2, hW2⟩ : ∃ W2, W2 = W1.setCells w.heap.size (i * 5) (encSeen x) := ⟨_, rfl⟩
  rw [← hW2] at hcpA s1
  have g2 : w.grownBy W2 none := ⟨s1.2.os.trans (g1 none).os, s1.2.tape.trans (g1 none).tape, s1.2.output.trans (g1 none).output, Nat.le_trans (g1 none).size s1.2.size, fun j hj _ => (s1.2.block j (Nat.lt_of_lt_of_le hj (g1 none).size) (by simp; omega)).trans ((g1 none).block j hj (by simp))⟩
  have s2 := own_setCells (flat encSeen (xs.drop i)) ((i + 1) * 5) W2.drew _ (own_drew s1.1)
  have hcpB : ∀ ty dc sc, (Builtin.copy_ #[22, 22] ty #[.slice (some ⟨w.heap.size, (i + 1) * 5, none⟩) (xs.length - i) dc, .slice (some ⟨g, i * 5, none⟩) (xs.length - i) sc]).run Try.prog W2.drew = .ok (goInt (xs.length - i : Nat)) (W2.drew.setCells w.heap.size ((i + 1) * 5) (flat encSeen (xs.drop i))) := fun ty dc sc =>
    run_copy_k W2.drew 22 22 ty 62 5 w.heap.size ((i + 1) * 5) _ dc _ sc (xs.length - i) _ _ Try.underlying22 sizeSeen (by simp only [Nat.min_def]; split <;> omega) ld ⟨g, i * 5, none⟩ rfl
      (fun j u hu => by
        rw [Addr.add_lit]
        show W2.cell? _ = _
        have hj := (List.getElem?_eq_some_iff.1 hu).1
        rw [ld] at hj
        refine (World.cell?_of_block (w := w) (g2.block g hgl (by simp))).trans ?_
        rw [World.ownsRow.cellAt h _ (by omega), lf, List.getElem?_append_right (by rw [lt]; omega), lt, Nat.add_sub_cancel_left, hu])
      (by rw [ld]; exact own_there (own_drew s1.1) _ _ (by omega)) (flat_one encSeenK _)
  obtain ⟨W3, hW3⟩ : ∃ W3, W3 = W2.drew.setCells w.heap.size ((i + 1) * 5) (flat encSeen (xs.drop i)) := ⟨_, rfl⟩
  rw [← hW3] at hcpB s2
  have hfin : Own encSeen 5 62 W3 base (.slice (some ⟨w.heap.size, 0, none⟩) (xs.length + 1) G) (insertAt xs i x) := by
    unfold Own
    rw [insert_len xs i x (by omega), flat_insert]
    have := splice_eq' (ROW.toList.take ((xs.length + 1) * 5)) (flat encSeen (xs.take i)) (encSeen x) (flat encSeen (xs.drop i)) 5 (encSeenK.len x) (by rw [o1.1, lt, ld]; omega) hRt
    rw [lt] at this
    rw [← this, show i * 5 + 5 = (i + 1) * 5 by omega]
    exact s2.1
  have HF := Lib.hid hfin
  have HG : Hid (w.grownBy W3 (some g)) := ⟨s2.2.os.trans g2.os, s2.2.tape.trans g2.tape, s2.2.output.trans g2.output, Nat.le_trans g2.size s2.2.size, fun j hj _ => (s2.2.block j (Nat.lt_of_lt_of_le hj g2.size) (by simp; omega)).trans (g2.block j hj (by simp))⟩
  have hGi : ¬ G = i := by omega
  have hGi1 : ¬ G = i + 1 := by omega
  have hxi : ¬ xs.length = i := by omega
  clear h hv hrg hold hROW hRs hRt hW1 o1 g1 s1 hW2 g2 s2 hW3 hfin lt ld lf hi0 hz0 hzs hzb hGm
  go_enter Try.func37, Try.ntmps37
  go_wp2_with (first | (at_builtin; refine Lib.wpList_append_run _ rfl _ _ _ _ rfl _ _ rfl rfl _ _ (hrz _) ?_) | (at_builtin; refine wpList_copy_runI _ rfl _ _ 22 22 rfl _ _ rfl rfl (hcpA _ _) ?_))
  have hw1 : IntKind.i64.wrap ((i : Int) + 1) = (i : Int) + 1 := by rw [IntKind.wrap_i64]; omega
  have hb1 : (0 : Int) ≤ (i : Int) + 1 := by omega
  have htn : ((i : Int) + 1).toNat = i + 1 := by omega
  have hb3 : (i : Int) + 1 ≤ (xs.length : Int) + 1 := by omega
  have hb4 : (i : Int) ≤ (xs.length : Int) + 1 := by omega
  have hin : i ≤ xs.length := by omega
  go_region_law (refine step_copy_runI rfl _ _ 22 22 rfl (.slice (some ⟨w.heap.size, (i + 1) * 5, none⟩) (xs.length - i) (G - (i + 1))) (.slice (some ⟨g, i * 5, none⟩) (xs.length - i) (xs.length - i)) (by simp [Act.eval, Act.put]) (by simp [Act.eval, Act.put]) (hcpB _ _ _) ?_)
  go_wp2
  go_ret
  exact ⟨_, rfl, HF.out, HG.out⟩
theorem InsertSeen (v : Value) (i vb : Nat) (xs : List PSeen) (x : PSeen) (w : World) (base : Nat) (h : Own encSeen 5 62 w base v xs) (hi : i ≤ xs.length) (hl : xs.length ≤ 1000000) (hbase : base ≤ w.heap.size)
    (hv : w.heap[vb]? = some (.cells (encSeen x).toArray 62 (0, 0))) (hne : v.ownBlock ≠ some vb) :
    Calls Try.prog 37 #[v, .int .i64 i, .slice (some ⟨vb, 0, none⟩) 1 1] w fun e w' => ∃ v', e = .returned v' ∧ Own encSeen 5 62 w' base v' (insertAt xs i x) ∧ w.grownBy w' v.ownBlock := by
  by_cases he : i = xs.length
  · subst he
    exact InsertSeen_end v vb xs x w base h hl hbase hv
  · rcases h.2 with ⟨rfl, h0⟩ | ⟨g, cap, cur, rfl, _, _, hn, hc, _, _⟩
    · omega
    · unfold maxLen at hc
      by_cases hr : xs.length + 1 ≤ cap
      · exact (InsertSeen_room g cap i vb xs x w base h (by omega) hr (by omega) hv (fun e => hne (by rw [e]; rfl))).mono fun e w' ⟨h1, h2, h3⟩ => ⟨_, h1, h2, h3⟩
      · obtain rfl : cap = xs.length := by omega
        exact InsertSeen_grow g i vb xs x w base h (by omega) hl hbase hv

set_option maxHeartbeats 2000000 in set_option maxRecDepth 100000 in
theorem IndexFuncSeen_Set1 (A : Option Addr) (c : Nat) (xs : List PSeen) (w : World) (cb : Nat) (p : PSeen → Bool) (h : RdS encSeen 5 w A xs)
    (hcl : ∀ (W : World) (x : PSeen), Below w.heap.size w W → Calls Try.prog 35 #[.agg #[.string x.contact, .int .i64 x.value.show_, .int .i64 x.value.prio, .int .i64 x.value.since, .string x.value.status], .pointer (some ⟨cb, 0, none⟩)] W fun e w' => e = .returned (.bool (p x)) ∧ Below W.heap.size W w') :
    Calls Try.prog 73 #[.slice A xs.length c, .func (.func 35) #[] #[.pointer (some ⟨cb, 0, none⟩)]] w fun e w' => (∃ r, e = .returned (.int .i64 r) ∧ IdxP p xs r) ∧ Below w.heap.size w w' := by
  have hm := h.1
  have H := Lib.hid h
  have HC := Lib.hid hcl
  clear h hcl
  go_enter Try.func73, Try.ntmps73
  go_wp2
  go_loopw [8] (fun i w' => ∃ k : Nat, k ≤ xs.length ∧ i = .int .i64 k ∧ Hid ((xs.take k).all (fun x => !p x) = true) ∧ Hid (Below w.heap.size w w')) (fun i _ => xs.length - (intOf i).toNat)
  case atStart => exact ⟨0, Nat.zero_le _, rfl, by simp [Hid], Below.refl _ _⟩
  case round =>
    obtain ⟨k, hk, rfl, Hk, HB⟩ := hrel
    by_cases hlt : k < xs.length
    · obtain ⟨b, off, rfl, h0⟩ := RdS.seen (H.out.below HB.out) k hlt
      cases hp : p xs[k]
      · have HP := Lib.hid hp
        clear hp
        go_wp2_with (go_at_call 35; refine (HC.out _ xs[k] HB.out).mono ?_; rw [HP.out]; rintro e w1 ⟨rfl, hb1⟩)
        exact ⟨⟨k + 1, by omega, by go_num, all_next hlt Hk.out (by simp [HP.out]), HB.out.trans (hb1.mono HB.out.size)⟩, by simp [intOf]; omega⟩
      · have HP := Lib.hid hp
        clear hp
        go_wp2_with (go_at_call 35; refine (HC.out _ xs[k] HB.out).mono ?_; rw [HP.out]; rintro e w1 ⟨rfl, hb1⟩)
        go_ret
        exact ⟨⟨_, rfl, .inr ⟨k, hlt, rfl, HP.out, Hk.out⟩⟩, HB.out.trans (hb1.mono HB.out.size)⟩
    · go_wp2
      go_ret
      exact ⟨⟨_, rfl, .inl ⟨rfl, all_end hlt Hk.out⟩⟩, HB.out⟩
set_option maxHeartbeats 4000000 in set_option maxRecDepth 100000 in
theorem DeleteFuncSeen_Set1 (v : Value) (xs : List PSeen) (w : World) (base cb : Nat) (p : PSeen → Bool) (h : Own encSeen 5 62 w base v xs)
    (hcl : ∀ (W : World) (x : PSeen), w.grownBy W v.ownBlock → Calls Try.prog 35 #[.agg #[.string x.contact, .int .i64 x.value.show_, .int .i64 x.value.prio, .int .i64 x.value.since, .string x.value.status], .pointer (some ⟨cb, 0, none⟩)] W fun e w' => e = .returned (.bool (p x)) ∧ Below W.heap.size W w') :
    Calls Try.prog 33 #[v, .func (.func 35) #[] #[.pointer (some ⟨cb, 0, none⟩)]] w fun e w' => ∃ v', e = .returned v' ∧ Own encSeen 5 62 w' base v' (xs.filter (fun x => !p x)) ∧ w.grownBy w' v.ownBlock ∧ (v'.ownBlock = v.ownBlock) := by
  have hr := h.reads encSeenK
  obtain ⟨A, c, rfl, hlc, hcm, hrd⟩ := hr
  have hm := hrd.1
  have hIF := IndexFuncSeen_Set1 A c xs w cb p hrd (fun W x hb => hcl W x (grown_below hb _))
  have HI := Lib.hid hIF
  have HO := Lib.hid h
  have HC := Lib.hid hcl
  have hgs := h.2
  clear h hrd hIF hcl
  rcases hgs with ⟨hg1, hg2⟩ | ⟨g, cap, cur, hg1, hg2, -⟩
  · obtain rfl : xs = [] := List.eq_nil_of_length_eq_zero hg2
    injection hg1 with hA _ hc'
    subst hA hc'
    go_enter Try.func33, Try.ntmps33
    go_wp2_with (go_at_call 73; refine HI.out.mono ?_; rintro e w1 ⟨⟨r, rfl, hr⟩, hb1⟩; obtain rfl := hr.none rfl; clear hr; have HB1 := Lib.hid hb1; clear hb1)
    go_ret
    exact ⟨_, rfl, HO.out.below HB1.out, grown_below HB1.out _, rfl⟩
  · injection hg1 with hA _ hc'
    subst hA hc'
    by_cases hall : xs.all (fun x => !p x) = true
    · have HA := Lib.hid hall
      clear hall
      go_enter Try.func33, Try.ntmps33
      go_wp2_with (go_at_call 73; refine HI.out.mono ?_; rintro e w1 ⟨⟨r, rfl, hr⟩, hb1⟩; obtain rfl := hr.none HA.out; clear hr; have HB1 := Lib.hid hb1; clear hb1)
      go_ret
      exact ⟨_, rfl, by rw [filter_all HA.out]; exact HO.out.below HB1.out, grown_below HB1.out _, rfl⟩
    · have HA := Lib.hid hall
      clear hall
      go_enter Try.func33, Try.ntmps33
      go_wp2_with (go_at_call 73; refine HI.out.mono ?_; rintro e w1 ⟨⟨r, rfl, hr⟩, hb1⟩; obtain ⟨k, hk, rfl, hp, ht⟩ := hr.some HA.out; clear hr; have HB1 := Lib.hid hb1; clear hb1; have HO1 := Lib.hid (HO.out.below HB1.out); have hkb : ((k : Int) == -1) = false := beq_eq_false_iff_ne.2 (by omega))
      have HC2 : Hid (∀ (W : World) (x : PSeen), w.grownBy W (some g) → Calls Try.prog 35 #[.agg #[.string x.contact, .int .i64 x.value.show_, .int .i64 x.value.prio, .int .i64 x.value.since, .string x.value.status], .pointer (some ⟨cb, 0, none⟩)] W fun e w' => e = .returned (.bool (p x)) ∧ Below W.heap.size W w') := HC.out
      go_loopw [5, 6] (fun vi vj wr => ∃ (i j : Nat) (ys : List PSeen), vi = .int .i64 i ∧ vj = .int .i64 j ∧ j ≤ xs.length ∧ i < j ∧ Hid (ys.length = xs.length) ∧ Hid (Gone (fun x => !p x) xs j i ys) ∧ Hid (Own encSeen 5 62 wr base (.slice (some ⟨g, 0, none⟩) xs.length c) ys) ∧ Hid (w.grownBy wr (some g))) (fun _ vj _ => xs.length - (intOf vj).toNat)
      case atStart => exact ⟨k, k + 1, xs, rfl, by go_num, by omega, by omega, rfl, Gone.start hk hp.out ht.out, HO1.out, grown_below HB1.out _⟩
      case round =>
        obtain ⟨i, j, ys, rfl, rfl, hj, hij, HL, HG, HY, HW⟩ := hrel
        have hic : i < c := by omega
        have HY2 : Hid (Own encSeen 5 62 wr base (.slice (some ⟨g, 0, none⟩) ys.length c) ys) := by rw [Hid, HL.out]; exact HY.out
        by_cases hlt : j < xs.length
        · have hrd := HY2.out.reads encSeenK
          obtain ⟨A', c', e', _, _, hrd⟩ := hrd
          injection e' with e1 e2 e3
          subst e1 e3
          have hjy : j < ys.length := by have := HL.out; omega
          have hat : ys[j] = xs[j] := by
            have := HG.out.at hlt
            rw [List.getElem?_eq_getElem hjy] at this
            exact Option.some.inj this
          obtain ⟨b', off', e4, h0⟩ := RdS.seen hrd j hjy
          rw [hat] at h0
          simp only [Option.some.injEq, Addr.mk.injEq, and_true] at e4
          obtain ⟨rfl, rfl⟩ := e4
          simp only [Nat.zero_add] at h0
          have HZ := HY2.out.frozen
          clear hat hrd hjy
          have HCO : Hid (i < ys.length) := by have := HL.out; show i < ys.length; omega
          have HGW : Hid (∀ o : Obj, w.grownBy (wr.alloc o) (some g)) := fun o => HW.out.trans (World.grownBy_alloc _ _ _)
          cases hp2 : p xs[j]
          · have HP := Lib.hid hp2
            clear hp2
            go_wp2_with (first | (go_at_call 35; refine (HC2.out _ xs[j] (HGW.out _)).mono ?_; rw [HP.out]; rintro e w2 ⟨rfl, hb2⟩; have q0 := alloc_cells hb2 0 _ rfl; have q1 := alloc_cells hb2 1 _ rfl; have q2 := alloc_cells hb2 2 _ rfl; have q3 := alloc_cells hb2 3 _ rfl; have q4 := alloc_cells hb2 4 _ rfl; have HY3 := Lib.hid (HY2.out.below (below_alloc_then hb2)); have HB2 := Lib.hid hb2; clear hb2) | (refine wp_store_own encSeenK rfl 62 (.tmp 33) (.tmp 32) rfl g c i ys xs[j] rfl rfl sizeSeen HY3.out HCO.out ?_; intro w3 hy4 hg4; have HY4 := Lib.hid hy4; have HG4 := Lib.hid hg4; clear hy4 hg4))
            go_roundw
            case rel => exact ⟨i + 1, j + 1, ys.set i xs[j], by go_num, by go_num, by omega, by omega, by show _ = _; rw [List.length_set, HL.out], HG.out.keep hlt hij (by simp [HP.out]), by show Own _ _ _ _ _ _ _; rw [← HL.out]; exact HY4.out, (HW.out.trans (grown_below (below_alloc_then HB2.out) _)).trans HG4.out⟩
            case measure => simp [intOf]; omega
          · have HP := Lib.hid hp2
            clear hp2
            go_wp2_with (go_at_call 35; refine (HC2.out _ xs[j] (HGW.out _)).mono ?_; rw [HP.out]; rintro e w2 ⟨rfl, hb2⟩; have HB2 := Lib.hid hb2; clear hb2)
            go_roundw
            case rel => exact ⟨i, j + 1, ys, rfl, by go_num, by omega, by omega, HL.out, HG.out.skip hlt (by simp [HP.out]), HY.out.below (below_alloc_then HB2.out), HW.out.trans (grown_below (below_alloc_then HB2.out) _)⟩
            case measure => simp [intOf]; omega
        · obtain rfl : j = xs.length := by omega
          have hiy : i ≤ ys.length := by have := HL.out; omega
          have hcond : ¬ c = i := by omega
          go_wp2_with (refine wp_clear_own encSeenK rfl (.tmp 38) 22 62 (.agg #[.string ⟨#[]⟩, .int .i64 0, .int .i64 0, .int .i64 0, .string ⟨#[]⟩]) rfl Try.underlying22 Try.zeroValue62 rfl zoneSeen (g := g) (cap := c) ys i _ _ _ (by rw [HL.out]) rfl HY2.out hiy (fun _ => rfl) ?_; intro w3 hy4 hg4; have HY4 := Lib.hid hy4; have HG4 := Lib.hid hg4; clear hy4 hg4)
          go_ret
          exact ⟨_, rfl, by rw [← HG.out.end_ (by omega)]; have := HY4.out; unfold Own at this ⊢; rw [List.length_take, Nat.min_eq_left hiy] at this ⊢; exact this, HW.out.trans HG4.out, rfl⟩

end Go.Proofs.Ytialmfbjkegjoaa
