/- Contracts of value.Take. -/
import Derived.Test.YtialmfbjkegjoaaJ2
import Derived.Deep.RegionLaw
import Derived.RegionTactic
import Derived.ChangeAlike
set_option linter.unusedVariables false
set_option linter.unusedSimpArgs false
namespace Go.Proofs.Ytialmfbjkegjoaa
open Go.RowKit

def PV.zero : PV := ⟨0, 0, 0, ⟨#[]⟩⟩
def byteAtN (s : ByteArray) (k : Nat) : Nat := (s.data.toList.getD k 0).toNat
/-- What is taken at k ≤ len(s). -/
def takeVal (s : ByteArray) (k : Nat) : PV × Int × Int :=
  if s.size < k + 2 then (.zero, 0, 2) else match getV s (k + 2 : Nat) with
  | (n, j, e) => if e ≠ 0 then (.zero, 0, e) else match takeV s j 32 with
    | (st, to, e) => if e ≠ 0 then (.zero, 0, e) else
      let v : PV := ⟨byteAtN s k, byteAtN s (k + 1) - 128, min n 1099511627777, st⟩
      if vokB v then (v, to, 0) else (.zero, 0, 3)
def rV (r : PV × Int × Int) : Ending := .returned (.tuple #[.agg (encV r.1).toArray, .int .i64 r.2.1, .int .i64 r.2.2])
theorem takeV_size {s : ByteArray} {k m : Int} : (takeV s k m).1.size ≤ s.size := by
  unfold takeV
  split
  · exact Nat.zero_le _
  · split
    · exact Nat.zero_le _
    · split
      · exact Nat.zero_le _
      · simp only [ByteArray.size_extract]
        omega
theorem byteAtN_at {s : ByteArray} {k : Nat} (h : k < s.size) : byteAtN s k = s[k].toNat := by
  unfold byteAtN
  rw [List.getD_eq_getElem?_getD, List.getElem?_eq_getElem (by simpa using h)]
  rfl
theorem takeV_in {s : ByteArray} {k : Nat} {m : Int} (hk : k ≤ s.size) (h : (takeV s k m).2.2 = 0) : ∃ j : Nat, (takeV s k m).2.1 = j ∧ k < j ∧ j ≤ s.size := by
  unfold takeV at h ⊢
  split at h
  · rename_i he; exact absurd h he
  · rename_i he
    rw [if_neg he]
    split at h
    · cases h
    · rename_i h2
      rw [if_neg h2]
      split at h
      · cases h
      · rename_i h3
        rw [if_neg h3]
        obtain ⟨_, j, hj, hkj, hjs⟩ := getV_ok hk (by simpa using he)
        rw [hj] at h3 ⊢
        exact ⟨j + (getV s k).1, by simp, by omega, by omega⟩
theorem two_cells {w w3 : World} {c1 c2 : Array Value} {T : TypeId} (hb : Below ((w.alloc (.cells c1 T)).alloc (.cells c2 T)).drew.heap.size ((w.alloc (.cells c1 T)).alloc (.cells c2 T)).drew w3) :
    (∀ i, w3.frozen? ⟨w.heap.size, i, none⟩ = false) ∧ (∀ i v, c1[i]? = some v → w3.cell? ⟨w.heap.size, i, none⟩ = some v) ∧ (∀ i v, c2[i]? = some v → w3.cell? ⟨w.heap.size + 1, i, none⟩ = some v) ∧ Below w.heap.size w w3 := by
  have hsz : ((w.alloc (.cells c1 T)).alloc (.cells c2 T)).drew.heap.size = w.heap.size + 2 := by simp
  refine ⟨fun i => ?_, fun i v hv => ?_, fun i v hv => ?_, ?_⟩
  · rw [hb.frozen (by rw [hsz]; simp)]
    show ((w.alloc (.cells c1 T)).alloc (.cells c2 T)).frozen? _ = false
    rw [frozen?_alloc_cells, frozen?_alloc_cells]
    simp [World.frozen?]
  · rw [hb.cell (by rw [hsz]; simp)]
    simp [hv]
  · rw [hb.cell (by rw [hsz]; simp)]
    simp [hv]
  · have h1 : Below w.heap.size w (w.alloc (.cells c1 T)) := (Below.refl _ _).alloc (Nat.le_refl _) _
    have h2 := (h1.alloc h1.size (.cells c2 T)).drew
    exact h2.trans (hb.mono h2.size)
theorem results_cell_tmp2 {fn : Func} {p u v : Tmp} {ty : TypeId} (h : fn.results = #[.cell p ty, .tmp u, .tmp v]) (tmps : Array Value) (P : Program) (w : World) :
    (results fn tmps).run P w =
      ((asAddr (tmps.getD p undef)).run P w).andThen fun a w₁ => ((loadVar ty a).run P w₁).andThen fun x w₂ => .ok (.tuple #[x, tmps.getD u undef, tmps.getD v undef]) w₂ := by
  simp only [results, h]
  simp [Sem.run_bind, Result.andThen]
set_option maxHeartbeats 1000000 in
set_option maxRecDepth 100000 in
theorem value_Take (s : ByteArray) (k : Nat) (w : World) (hk : k ≤ s.size) (hs : s.size ≤ 9223372036854775000) :
    Calls Try.prog 70 #[.string s, .int .i64 k] w fun e w' => e = rV (takeVal s k) ∧ Below w.heap.size w w' := by
  obtain ⟨r, hr⟩ : ∃ r, takeVal s k = r := ⟨_, rfl⟩
  rw [hr]
  unfold takeVal at hr
  have HBA : Hid (∀ W : World, w.heap.size ≤ W.heap.size → Below w.heap.size w W → ∀ o, Below w.heap.size w (W.alloc o)) := fun W h hb o => hb.alloc h o
  by_cases h2 : s.size < k + 2
  · rw [if_pos h2] at hr
    subst hr
    have q1 : decide ((k : Int) < 0) = false := by simp
    have q2 : decide ((s.size : Int) < k) = false := by simp; omega
    have q3 : decide (s.size < k) = false := by simp; omega
    go_enter Try.func70, Try.ntmps70
    go_wp2
    refine bodyPost_ret (v := .tuple #[.agg (encV PV.zero).toArray, .int .i64 0, .int .i64 2]) ?_ rfl ?_
    · rw [results_cell_tmp2 rfl]
      go_simp
      rfl
    · exact ⟨rfl, (Below.refl w.heap.size w).alloc (Nat.le_refl _) _⟩
  · rw [if_neg h2] at hr
    have hG := fun w => varint_Get_at s (k + 2) w (by omega) hs
    have hok := @getV_ok s (k + 2) (by omega)
    generalize getV s (k + 2 : Nat) = g at hG hr hok
    obtain ⟨n, j, e⟩ := g
    simp only [] at hG hr hok
    have q3 : decide (s.size < k) = false := by simp; omega
    have hG' : ∀ w, Calls Try.prog 68 #[.string s, .int .i64 ((k : Int) + 2)] w fun e' w' => e' = .returned (.tuple #[.int .u64 n, .int .i64 j, .int .i64 e]) ∧ w = w' := hG
    have HG := Lib.hid hG'
    clear hG hG'
    have b1 : k < s.size := by omega
    have b2 : k + 1 < s.size := by omega
    have b3 : (0 : Int) ≤ (k : Int) + 1 ∧ (k : Int) + 1 < s.size := by omega
    by_cases he : e = 0
    · subst he
      obtain ⟨h64, j', hj, hkj, hjs⟩ := hok rfl
      subst hj
      have h64' : n < 18446744073709551616 := h64
      clear h64
      rw [if_neg (by simp)] at hr
      have hT := fun w => varint_Take s j' 32 w hjs hs (by omega) (by omega)
      have hz := takeV_size (s := s) (k := j') (m := 32)
      generalize takeV s j' 32 = g at hT hr hz
      obtain ⟨st, to, e⟩ := g
      simp only [] at hT hr hz
      have HT := Lib.hid hT
      clear hT
      by_cases he : e = 0
      · subst he
        rw [if_neg (by simp), byteAtN_at b1, byteAtN_at b2] at hr
        have hM := fun w => value_May s[k].toNat ((s[k + 1].toNat : Int) - 128) (min n 1099511627777) st w (by omega)
        have ew1 : ((s[k].toNat : Nat) : Int) = wrap64 s[k].toNat := by have := s[k].toNat_lt; unfold wrap64; omega
        have ew2 : (s[k + 1].toNat : Int) - 128 = wrap64 (wrap64 s[k + 1].toNat + -128) := by have := s[k + 1].toNat_lt; unfold wrap64; omega
        rw [ew1, ew2] at hM hr
        generalize hv : vokB ⟨wrap64 s[k].toNat, wrap64 (wrap64 s[k + 1].toNat + -128), min n 1099511627777, st⟩ = b at hM hr
        have HM := Lib.hid hM
        clear hM ew1 ew2
        rcases b with _ | _
        · rw [if_neg (by simp)] at hr
          subst hr
          have HV := Lib.hid hv
          clear hv
          go_enter Try.func70, Try.ntmps70
          go_wp2_with (first | (go_at_call 68; refine (HG.out _).mono ?_; rintro e w1 ⟨rfl, rfl⟩) | (go_at_call 102; refine (HT.out _).mono ?_; rintro e w2 ⟨rfl, rfl⟩))
          go_region
          go_wp2_with (go_at_call 72; refine (HM.out _).mono ?_; rintro e w3 ⟨rfl, hb3⟩; obtain ⟨f3, g3, g4, hb4⟩ := two_cells hb3; clear hb3; have k0 := g3 0 _ rfl; have k1 := g3 1 _ rfl; have k2 := g3 2 _ rfl; have k3 := g3 3 _ rfl; have l0 := g4 0 _ rfl; have l1 := g4 1 _ rfl; have l2 := g4 2 _ rfl; have l3 := g4 3 _ rfl; clear g3 g4; have f0 := f3 0; have f1 := f3 1; have f2 := f3 2; have f4 := f3 3; clear f3; simp only [List.getElem_toArray, List.getElem_cons_zero, List.getElem_cons_succ] at k0 k1 k2 k3 l0 l1 l2 l3)
          refine bodyPost_ret (v := .tuple #[.agg (encV PV.zero).toArray, .int .i64 0, .int .i64 3]) ?_ rfl ?_
          · rw [results_cell_tmp2 rfl]
            go_simp
            rfl
          · refine ⟨rfl, ?_⟩
            exact (((hb4.setCell (p := ⟨w.heap.size, 0, none⟩) (Nat.le_refl _) _).setCell (p := ⟨w.heap.size, 1, none⟩) (Nat.le_refl _) _).setCell (p := ⟨w.heap.size, 2, none⟩) (Nat.le_refl _) _).setCell (p := ⟨w.heap.size, 3, none⟩) (Nat.le_refl _) _
        · rw [if_pos rfl] at hr
          subst hr
          have HV := Lib.hid hv
          clear hv
          go_enter Try.func70, Try.ntmps70
          go_wp2_with (first | (go_at_call 68; refine (HG.out _).mono ?_; rintro e w1 ⟨rfl, rfl⟩) | (go_at_call 102; refine (HT.out _).mono ?_; rintro e w2 ⟨rfl, rfl⟩))
          go_region
          go_wp2_with (go_at_call 72; refine (HM.out _).mono ?_; rintro e w3 ⟨rfl, hb3⟩; obtain ⟨f3, g3, g4, hb4⟩ := two_cells hb3; clear hb3; have k0 := g3 0 _ rfl; have k1 := g3 1 _ rfl; have k2 := g3 2 _ rfl; have k3 := g3 3 _ rfl; have l0 := g4 0 _ rfl; have l1 := g4 1 _ rfl; have l2 := g4 2 _ rfl; have l3 := g4 3 _ rfl; clear g3 g4; have f0 := f3 0; have f1 := f3 1; have f2 := f3 2; have f4 := f3 3; clear f3; simp only [List.getElem_toArray, List.getElem_cons_zero, List.getElem_cons_succ] at k0 k1 k2 k3 l0 l1 l2 l3)
          refine bodyPost_ret (v := .tuple #[.agg (encV ⟨wrap64 s[k].toNat, wrap64 (wrap64 s[k + 1].toNat + -128), min n 1099511627777, st⟩).toArray, .int .i64 to, .int .i64 0]) ?_ rfl ?_
          · rw [results_cell_tmp2 rfl]
            go_simp
            rfl
          · refine ⟨rfl, ?_⟩
            exact (((hb4.setCell (p := ⟨w.heap.size, 0, none⟩) (Nat.le_refl _) _).setCell (p := ⟨w.heap.size, 1, none⟩) (Nat.le_refl _) _).setCell (p := ⟨w.heap.size, 2, none⟩) (Nat.le_refl _) _).setCell (p := ⟨w.heap.size, 3, none⟩) (Nat.le_refl _) _
      · rw [if_pos he] at hr
        subst hr
        have q0 : (e != 0) = true := by simp [he]
        go_enter Try.func70, Try.ntmps70
        go_wp2_with (first | (go_at_call 68; refine (HG.out _).mono ?_; rintro e w1 ⟨rfl, rfl⟩) | (go_at_call 102; refine (HT.out _).mono ?_; rintro e w2 ⟨rfl, rfl⟩))
        refine bodyPost_ret (v := .tuple #[.agg (encV PV.zero).toArray, .int .i64 0, .int .i64 e]) ?_ rfl ?_
        · rw [results_cell_tmp2 rfl]
          go_simp
          rfl
        · refine ⟨rfl, ?_⟩
          exact (Below.refl w.heap.size w).alloc (Nat.le_refl _) _
    · rw [if_pos he] at hr
      subst hr
      have q0 : (e != 0) = true := by simp [he]
      go_enter Try.func70, Try.ntmps70
      go_wp2_with (first | (go_at_call 68; refine (HG.out _).mono ?_; rintro e w1 ⟨rfl, rfl⟩))
      refine bodyPost_ret (v := .tuple #[.agg (encV PV.zero).toArray, .int .i64 0, .int .i64 e]) ?_ rfl ?_
      · rw [results_cell_tmp2 rfl]
        go_simp
        rfl
      · refine ⟨rfl, ?_⟩
        exact (Below.refl w.heap.size w).alloc (Nat.le_refl _) _
end Go.Proofs.Ytialmfbjkegjoaa
