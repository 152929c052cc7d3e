/- Contract of digest.Set. -/
import Derived.Test.YtialmfbjkegjoaaF
import Derived.Test.YtialmfbjkegjoaaLSeen
set_option linter.unusedVariables false
set_option linter.unusedSimpArgs false
namespace Go.Proofs.Ytialmfbjkegjoaa
open Go.RowKit

def sameC (s : ByteArray) (x : PSeen) : Bool := decide (x.contact = s)
def posTo (xs : List PSeen) (s : ByteArray) : Nat → Nat
  | 0 => 0
  | k + 1 => if (match xs[k]? with | some x => less3 x.contact s | none => false) = true then k + 1 else posTo xs s k
def setS (t : List PSeen) (c : PChange) : List PSeen :=
  let rest := t.filter (fun x => !sameC c.contact x)
  if c.on = true then insertAt rest (posTo rest c.contact rest.length) ⟨c.contact, c.value⟩ else rest
theorem posTo_le (xs : List PSeen) (s : ByteArray) : ∀ k, posTo xs s k ≤ k
  | 0 => Nat.le_refl _
  | k + 1 => by
    have := posTo_le xs s k
    rw [posTo]
    generalize (match xs[k]? with | some x => less3 x.contact s | none => false) = b
    cases b <;> simp <;> omega
theorem posTo_yes {xs : List PSeen} {s : ByteArray} {k : Nat} (hk : k < xs.length) (h : less3 xs[k].contact s = true) : posTo xs s (k + 1) = k + 1 := by
  unfold posTo; rw [List.getElem?_eq_getElem hk]; simp [h]
theorem posTo_no {xs : List PSeen} {s : ByteArray} {k : Nat} (hk : k < xs.length) (h : less3 xs[k].contact s = false) : posTo xs s (k + 1) = posTo xs s k := by
  conv => lhs; unfold posTo
  rw [List.getElem?_eq_getElem hk]; simp [h]

set_option maxHeartbeats 1000000 in
theorem Set1 (x : PSeen) (cb : Nat) (s : ByteArray) (w : World) (hc : w.cell? ⟨cb, 0, none⟩ = some (.string s)) :
    Calls Try.prog 35 #[.agg #[.string x.contact, .int .i64 x.value.show_, .int .i64 x.value.prio, .int .i64 x.value.since, .string x.value.status], .pointer (some ⟨cb, 0, none⟩)] w fun e w' => e = .returned (.bool (sameC s x)) ∧ Below w.heap.size w w' := by
  have hlt := World.block_lt_of_cell? w _ hc
  have hne : ¬ w.heap.size = cb := by simp at hlt; omega
  go_enter Try.func35, Try.ntmps35
  go_wp2
  go_ret
  exact ⟨ret_bool (by rw [str_beq]; rfl), (Below.refl _ _).alloc (Nat.le_refl _) _⟩
set_option maxHeartbeats 4000000 in
set_option maxRecDepth 100000 in
theorem digest_Set (A : Option Addr) (n : Nat) (t : List PSeen) (c : PChange) (w : World) (h : RdS encSeen 5 w A t) (hn : t.length ≤ n) (hl : t.length ≤ 100000) :
    Calls Try.prog 9 #[.slice A t.length n, .agg #[.string c.contact, .bool c.on, .int .i64 c.value.show_, .int .i64 c.value.prio, .int .i64 c.value.since, .string c.value.status]] w fun e w' => ∃ v, e = .returned v ∧ SlV encSeen 5 w' v (setS t c) ∧ Below w.heap.size w w' := by
  obtain ⟨s, on, cv⟩ := c
  dsimp only
  obtain ⟨wa, hwa⟩ : ∃ wa, wa = w.alloc (.cells #[.string s, .bool on, .int .i64 cv.show_, .int .i64 cv.prio, .int .i64 cv.since, .string cv.status] 26) := ⟨_, rfl⟩
  have hBa : Below w.heap.size w wa := by rw [hwa]; exact (Below.refl _ _).alloc (Nat.le_refl _) _
  have hsz : wa.heap.size = w.heap.size + 1 := by rw [hwa]; simp
  have a0 : wa.cell? ⟨w.heap.size, 0, none⟩ = some (.string s) := by rw [hwa]; simp
  have a1 : wa.cell? ⟨w.heap.size, 1, none⟩ = some (.bool on) := by rw [hwa]; simp
  have a2 : wa.cell? ⟨w.heap.size, 2, none⟩ = some (.int .i64 cv.show_) := by rw [hwa]; simp
  have a3 : wa.cell? ⟨w.heap.size, 3, none⟩ = some (.int .i64 cv.prio) := by rw [hwa]; simp
  have a4 : wa.cell? ⟨w.heap.size, 4, none⟩ = some (.int .i64 cv.since) := by rw [hwa]; simp
  have a5 : wa.cell? ⟨w.heap.size, 5, none⟩ = some (.string cv.status) := by rw [hwa]; simp
  have HCl := Lib.hid (CloneSeen A n t wa (h.below hBa) hn (by omega))
  have HWA := Lib.hid hwa.symm
  have HSZ := Lib.hid hsz
  have HBa := Lib.hid hBa
  have E0 := Lib.hid a0; have E1 := Lib.hid a1; have E2 := Lib.hid a2; have E3 := Lib.hid a3; have E4 := Lib.hid a4; have E5 := Lib.hid a5
  clear hwa hsz hBa a0 a1 a2 a3 a4 a5 h
  go_enter Try.func9, Try.ntmps9
  go_wp2_with (go_at_call 34; rw [HWA.out]; refine HCl.out.mono ?_; rintro e w1 ⟨v1, rfl, ho1, hb1⟩; have HO1 := Lib.hid ho1; have HB1 := Lib.hid hb1; clear ho1 hb1)
  have hc1 : w1.cell? ⟨w.heap.size, 0, none⟩ = some (.string s) := by rw [HB1.out.cell (by have := HSZ.out; simp; omega)]; exact E0.out
  have hnb : ∀ j, v1.ownBlock = some j → w.heap.size < j := fun j hj => by have := (HO1.out.base_le j hj).1; have := HSZ.out; omega
  have hD := DeleteFuncSeen_Set1 v1 t w1 wa.heap.size w.heap.size (sameC s) HO1.out (fun W x hg => Set1 x w.heap.size s W (hg.cell hc1 (fun e => by have := hnb _ e.symm; simp at this)))
  have HD := Lib.hid hD
  have HNB := Lib.hid hnb
  clear hD hnb hc1
  refine HD.out.mono ?_
  rintro e w2 ⟨v2, rfl, ho2, hg2, hv2⟩
  have hb2 : Below wa.heap.size wa w2 := HB1.out.grown hg2 (HB1.out.size) (fun j hj => (HO1.out.base_le j hj).1)
  obtain ⟨rest, hrest⟩ : ∃ rest, rest = t.filter (fun x => !sameC s x) := ⟨_, rfl⟩
  rw [← hrest] at ho2
  obtain ⟨A2, n2, rfl, hn2, hc2, hrd2⟩ := ho2.reads encSeenK
  have hrl : rest.length ≤ 100000 := by rw [hrest]; exact Nat.le_trans (List.length_filter_le _ _) hl
  have hbc : ∀ j u, wa.cell? ⟨w.heap.size, j, none⟩ = some u → ∀ W, Below w2.heap.size w2 W → W.cell? ⟨w.heap.size, j, none⟩ = some u := fun j u hu W hb => by
    rw [hb.cell (by have := HSZ.out; have := hb2.size; simp; omega), hb2.cell (by have := HSZ.out; simp; omega)]
    exact hu
  have b0 := hbc 0 _ E0.out w2 (Below.refl _ _)
  have b1 := hbc 1 _ E1.out w2 (Below.refl _ _)
  have HO2 := Lib.hid ho2
  have HB2 := Lib.hid hb2
  have HBC := Lib.hid hbc
  have HR := Lib.hid hrest
  have HRD := Lib.hid hrd2
  have HV2 := Lib.hid hv2
  have HG2 := Lib.hid hg2
  clear ho2 hb2 hbc hrest hrd2 hv2 hg2
  cases on
  · go_wp2
    go_ret
    have hS : setS t ⟨s, false, cv⟩ = rest := by rw [HR.out]; rfl
    exact ⟨_, rfl, by rw [hS]; exact ⟨A2, n2, rfl, hn2, hc2, HRD.out⟩, HBa.out.trans (HB2.out.mono (by have := HSZ.out; omega))⟩
  · go_wp2
    go_loopw [6, 19] (fun va vi wr => ∃ (k : Nat), k ≤ rest.length ∧ va = .int .i64 (posTo rest s k) ∧ vi = .int .i64 k ∧ Hid (Below w2.heap.size w2 wr)) (fun _ vi _ => rest.length - (intOf vi).toNat)
    case atStart => exact ⟨0, Nat.zero_le _, rfl, rfl, Below.refl _ _⟩
    case round =>
      obtain ⟨k, hk, rfl, rfl, HB⟩ := hrel
      by_cases hlt : k < rest.length
      · obtain ⟨b, off, rfl, h0⟩ := (HRD.out.below HB.out).seen k hlt
        have d0 := HBC.out 0 _ E0.out _ HB.out
        have hwr : w.heap.size < wr.heap.size := by have := HSZ.out; have := HB2.out.size; have := HB.out.size; omega
        have hne1 : ¬ w.heap.size = wr.heap.size := by omega
        have hne2 : ¬ wr.heap.size = w.heap.size := by omega
        cases hs : less3 rest[k].contact s
        · have HS := Lib.hid hs
          clear hs
          go_wp2_with (go_at_call 36; refine (ident_Less _ _ _).mono ?_; rw [lessB_eq, HS.out]; rintro e w4 ⟨rfl, hb4⟩; have HB4 := Lib.hid hb4; clear hb4)
          exact ⟨⟨k + 1, by omega, by rw [posTo_no hlt HS.out], by go_num, HB.out.trans ((below_alloc_then HB4.out).mono HB.out.size)⟩, by simp [intOf]; omega⟩
        · have HS := Lib.hid hs
          clear hs
          go_wp2_with (go_at_call 36; refine (ident_Less _ _ _).mono ?_; rw [lessB_eq, HS.out]; rintro e w4 ⟨rfl, hb4⟩; have HB4 := Lib.hid hb4; clear hb4)
          exact ⟨⟨k + 1, by omega, by rw [posTo_yes hlt HS.out]; go_num, by go_num, HB.out.trans ((below_alloc_then HB4.out).mono HB.out.size)⟩, by simp [intOf]; omega⟩
      · obtain rfl : k = rest.length := by omega
        have e0 := HBC.out 0 _ E0.out _ HB.out
        have e2 := HBC.out 2 _ E2.out _ HB.out
        have e3 := HBC.out 3 _ E3.out _ HB.out
        have e4 := HBC.out 4 _ E4.out _ HB.out
        have e5 := HBC.out 5 _ E5.out _ HB.out
        obtain ⟨W3, hW3⟩ : ∃ W3, W3 = wr.alloc (.cells #[.string s, .int .i64 cv.show_, .int .i64 cv.prio, .int .i64 cv.since, .string cv.status] 62) := ⟨_, rfl⟩
        have hB3 : Below wr.heap.size wr W3 := by rw [hW3]; exact (Below.refl _ _).alloc (Nat.le_refl _) _
        have hv3 : W3.heap[wr.heap.size]? = some (.cells (encSeen ⟨s, cv⟩).toArray 62 (0, 0)) := by rw [hW3]; exact heap_alloc_new wr _
        have hor := HO2.out.below HB.out
        have hlt2 := hor.base_le
        have hI := InsertSeen (.slice A2 rest.length n2) (posTo rest s rest.length) wr.heap.size rest ⟨s, cv⟩ W3 wa.heap.size (hor.below hB3) (posTo_le _ _ _) (by omega) (by have := HB2.out.size; have := HB.out.size; have := hB3.size; omega) hv3 (fun e => by have := (hlt2 _ e).2; omega)
        have HI := Lib.hid hI
        have HW3 := Lib.hid hW3.symm
        have HB3 : Hid (Below w2.heap.size w2 W3) := HB.out.trans (hB3.mono HB.out.size)
        have HL2 := Lib.hid hlt2
        clear hW3 hB3 hv3 hor hlt2 hI
        go_wp2_with (go_at_call 37; rw [HW3.out]; refine HI.out.mono ?_; rintro e w5 ⟨v5, rfl, ho5, hg5⟩; have HO5 := Lib.hid ho5; have HG5 := Lib.hid hg5; clear ho5 hg5)
        go_ret
        have hS : setS t ⟨s, true, cv⟩ = insertAt rest (posTo rest s rest.length) ⟨s, cv⟩ := by rw [HR.out]; rfl
        refine ⟨_, rfl, by rw [hS]; exact HO5.out.reads encSeenK, HBa.out.trans ((HB2.out.trans ((HB3.out.mono HB2.out.size).grown HG5.out (Nat.le_trans HB2.out.size HB3.out.size) (fun j hj => ?_))).mono (by have := HSZ.out; omega))⟩
        exact (HO2.out.base_le j hj).1
end Go.Proofs.Ytialmfbjkegjoaa
