/- Layer 5's live answers are what the document gives. -/
import Derived.Test.YtialmfbjkegjoaaW
set_option linter.unusedVariables false
set_option linter.unusedSimpArgs false
namespace Go.Proofs.Ytialmfbjkegjoaa
open Go.RowKit

attribute [local go_sem high] eqV eqChange
set_option maxHeartbeats 4000000 in
set_option maxRecDepth 100000 in
theorem law05_live (w : World) : Calls Try.prog 8 #[] w fun e w' => e = .returned (.bool true) ∧ Below w.heap.size w w' := by
  go_enter Try.func8, Try.ntmps8
  go_upto_region 3 with (fail)
  obtain ⟨W1, hW1⟩ : ∃ W1, W1 = (w.alloc (.cells #[.int .i64 4, .int .i64 0, .int .i64 5, .string ⟨#[]⟩] 24)).alloc (.cells (flat encSeen lt5).toArray 62) := ⟨_, rfl⟩
  have HW1 := Lib.hid hW1
  have hL : RdS encSeen 5 W1 (some ⟨w.heap.size + 1, 0, none⟩) lt5 := by rw [hW1]; exact freshRow encSeenK _ _ _ (by simp) lt5 rfl (by decide) _
  have hV : Cells W1 w.heap.size [.int .i64 4, .int .i64 0, .int .i64 5, .string ⟨#[]⟩] := by rw [hW1]; exact (Cells.fresh w _ _).below ((Below.refl _ _).alloc (Nat.le_refl _) _)
  have hB : Below w.heap.size w W1 := by rw [hW1]; exact ((Below.refl _ _).alloc (Nat.le_refl _) _).alloc (by simp) _
  have hLC : Cells W1 (w.heap.size + 1) (flat encSeen lt5) := by rw [hW1]; simpa using Cells.fresh (w.alloc (.cells #[.int .i64 4, .int .i64 0, .int .i64 5, .string ⟨#[]⟩] 24)) (flat encSeen lt5) 62
  have HLC := Lib.hid hLC
  have HL := Lib.hid hL
  have HV := Lib.hid hV
  have HB := Lib.hid hB
  clear hL hV hB hLC
  have e1 : (flat encSeen lt5).toArray = #[.string ⟨#[98]⟩, .int .i64 4, .int .i64 0, .int .i64 5, .string ⟨#[]⟩, .string ⟨#[97, 97]⟩, .int .i64 4, .int .i64 0, .int .i64 5, .string ⟨#[]⟩] := rfl
  rw [e1] at hW1
  clear e1
  rw [← hW1]
  clear hW1
  go_upto_region 11 with (first | (go_at_call 27; (with_reducible refine (W_Put _ _ W1 HL.out).mono ?_); rintro e w1 ⟨rfl, hb1⟩; have HB1 := Lib.hid hb1; clear hb1) | (go_at_call 28; (with_reducible refine (W_Take w1).mono ?_); rintro e w2 ⟨A2, c2, rfl, hr2, hb2⟩; have HR2 := Lib.hid hr2; have HB2 := Lib.hid (HB1.out.trans (hb2.mono HB1.out.size)); clear hr2 hb2) | (go_at_call 28; (with_reducible refine (W_Take2 w2).mono ?_); rintro e w3 ⟨A3, c3, rfl, hb3⟩; have HR2 := Lib.hid (HR2.out.below hb3); have HB3 := Lib.hid (HB2.out.trans (hb3.mono HB2.out.size)); have hv0 := keepC HB3.out (HV.out.1 0 _ rfl); have hv1 := keepC HB3.out (HV.out.1 1 _ rfl); have hv2 := keepC HB3.out (HV.out.1 2 _ rfl); have hv3 := keepC HB3.out (HV.out.1 3 _ rfl); clear hb3) | (go_at_call 9; (with_reducible refine (W_Set1 _ _ w3 (HL.out.below HB3.out) (by decide)).mono ?_); rintro e w4 ⟨b4, o4, c4, rfl, hr4, hb4⟩; have HR4 := Lib.hid hr4; have HR2 := Lib.hid (HR2.out.below hb4); have HB4 := Lib.hid (HB3.out.trans (hb4.mono HB3.out.size)); clear hr4 hb4 hv0 hv1 hv2 hv3) | (go_at_call 9; (with_reducible refine (W_Set2 _ _ w4 (HL.out.below HB4.out) (by decide)).mono ?_); rintro e w5 ⟨b5, o5, c5, rfl, hr5, hb5⟩; have HR5 := Lib.hid hr5; have HR2 := Lib.hid (HR2.out.below hb5); have HR4 := Lib.hid (HR4.out.below hb5); have HB5 := Lib.hid (HB4.out.trans (hb5.mono HB4.out.size)); clear hr5 hb5) | (go_at_call 29; (with_reducible refine (W_Get1 _ _ w5 (HL.out.below HB5.out)).mono ?_); rintro e w6 ⟨rfl, hb6⟩; have HR5 := Lib.hid (HR5.out.below hb6); have HR2 := Lib.hid (HR2.out.below hb6); have HR4 := Lib.hid (HR4.out.below hb6); have HB6 := Lib.hid (HB5.out.trans (hb6.mono HB5.out.size)); clear hb6) | (go_at_call 29; (with_reducible refine (W_Get2 _ _ _ (HL.out.below (HB6.out.alloc HB6.out.size _))).mono ?_); rintro e w7 ⟨rfl, hb7⟩; have HC7 := Lib.hid ((Cells.fresh w6 [.int .i64 4, .int .i64 0, .int .i64 5, .string ⟨#[]⟩] 24).below hb7); have HR5 := Lib.hid (HR5.out.below (below_alloc_then hb7)); have HR2 := Lib.hid (HR2.out.below (below_alloc_then hb7)); have HR4 := Lib.hid (HR4.out.below (below_alloc_then hb7)); have HB7 := Lib.hid (HB6.out.trans ((below_alloc_then hb7).mono HB6.out.size)); clear hb7) | (go_at_call 30; (with_reducible refine (W_Changes _ _ _ _ _ (HL.out.below (HB7.out.alloc HB7.out.size _)) (HR4.out.below ((Below.refl _ _).alloc (Nat.le_refl _) _))).mono ?_); rintro e w8 ⟨b8, o8, c8, rfl, hr8, hb8⟩; have HR8 := Lib.hid hr8; have HC8 := Lib.hid (HC7.out.below (below_alloc_then hb8)); have HR5 := Lib.hid (HR5.out.below (below_alloc_then hb8)); have HR2 := Lib.hid (HR2.out.below (below_alloc_then hb8)); have HR4 := Lib.hid (HR4.out.below (below_alloc_then hb8)); have HB8 := Lib.hid (HB7.out.trans ((below_alloc_then hb8).mono HB7.out.size)); clear hr8 hb8))
  have HL8 := Lib.hid (HL.out.below HB8.out)
  have z0 := keepC HB8.out (HV.out.1 0 _ rfl)
  try simp only [encSeen, encV, encChange, flat, lt5, lw5, lx5, lv, sb, sc, saa, Nat.zero_mul, Nat.one_mul, Nat.add_zero, Nat.zero_add, Nat.reduceMul, Nat.reduceAdd] at z0
  have Z0 := Lib.hid z0
  clear z0
  have z1 := keepC HB8.out (HV.out.1 1 _ rfl)
  try simp only [encSeen, encV, encChange, flat, lt5, lw5, lx5, lv, sb, sc, saa, Nat.zero_mul, Nat.one_mul, Nat.add_zero, Nat.zero_add, Nat.reduceMul, Nat.reduceAdd] at z1
  have Z1 := Lib.hid z1
  clear z1
  have z2 := keepC HB8.out (HV.out.1 2 _ rfl)
  try simp only [encSeen, encV, encChange, flat, lt5, lw5, lx5, lv, sb, sc, saa, Nat.zero_mul, Nat.one_mul, Nat.add_zero, Nat.zero_add, Nat.reduceMul, Nat.reduceAdd] at z2
  have Z2 := Lib.hid z2
  clear z2
  have z3 := keepC HB8.out (HV.out.1 3 _ rfl)
  try simp only [encSeen, encV, encChange, flat, lt5, lw5, lx5, lv, sb, sc, saa, Nat.zero_mul, Nat.one_mul, Nat.add_zero, Nat.zero_add, Nat.reduceMul, Nat.reduceAdd] at z3
  have Z3 := Lib.hid z3
  clear z3
  have z4 := HC8.out.1 0 _ rfl
  try simp only [encSeen, encV, encChange, flat, lt5, lw5, lx5, lv, sb, sc, saa, Nat.zero_mul, Nat.one_mul, Nat.add_zero, Nat.zero_add, Nat.reduceMul, Nat.reduceAdd] at z4
  have Z4 := Lib.hid z4
  clear z4
  have z5 := HC8.out.1 1 _ rfl
  try simp only [encSeen, encV, encChange, flat, lt5, lw5, lx5, lv, sb, sc, saa, Nat.zero_mul, Nat.one_mul, Nat.add_zero, Nat.zero_add, Nat.reduceMul, Nat.reduceAdd] at z5
  have Z5 := Lib.hid z5
  clear z5
  have z6 := HC8.out.1 2 _ rfl
  try simp only [encSeen, encV, encChange, flat, lt5, lw5, lx5, lv, sb, sc, saa, Nat.zero_mul, Nat.one_mul, Nat.add_zero, Nat.zero_add, Nat.reduceMul, Nat.reduceAdd] at z6
  have Z6 := Lib.hid z6
  clear z6
  have z7 := HC8.out.1 3 _ rfl
  try simp only [encSeen, encV, encChange, flat, lt5, lw5, lx5, lv, sb, sc, saa, Nat.zero_mul, Nat.one_mul, Nat.add_zero, Nat.zero_add, Nat.reduceMul, Nat.reduceAdd] at z7
  have Z7 := Lib.hid z7
  clear z7
  have z8 := keepC HB8.out (HLC.out.1 0 _ rfl)
  try simp only [encSeen, encV, encChange, flat, lt5, lw5, lx5, lv, sb, sc, saa, Nat.zero_mul, Nat.one_mul, Nat.add_zero, Nat.zero_add, Nat.reduceMul, Nat.reduceAdd] at z8
  have Z8 := Lib.hid z8
  clear z8
  have z9 := keepC HB8.out (HLC.out.1 1 _ rfl)
  try simp only [encSeen, encV, encChange, flat, lt5, lw5, lx5, lv, sb, sc, saa, Nat.zero_mul, Nat.one_mul, Nat.add_zero, Nat.zero_add, Nat.reduceMul, Nat.reduceAdd] at z9
  have Z9 := Lib.hid z9
  clear z9
  have z10 := keepC HB8.out (HLC.out.1 2 _ rfl)
  try simp only [encSeen, encV, encChange, flat, lt5, lw5, lx5, lv, sb, sc, saa, Nat.zero_mul, Nat.one_mul, Nat.add_zero, Nat.zero_add, Nat.reduceMul, Nat.reduceAdd] at z10
  have Z10 := Lib.hid z10
  clear z10
  have z11 := keepC HB8.out (HLC.out.1 3 _ rfl)
  try simp only [encSeen, encV, encChange, flat, lt5, lw5, lx5, lv, sb, sc, saa, Nat.zero_mul, Nat.one_mul, Nat.add_zero, Nat.zero_add, Nat.reduceMul, Nat.reduceAdd] at z11
  have Z11 := Lib.hid z11
  clear z11
  have z12 := keepC HB8.out (HLC.out.1 4 _ rfl)
  try simp only [encSeen, encV, encChange, flat, lt5, lw5, lx5, lv, sb, sc, saa, Nat.zero_mul, Nat.one_mul, Nat.add_zero, Nat.zero_add, Nat.reduceMul, Nat.reduceAdd] at z12
  have Z12 := Lib.hid z12
  clear z12
  have z13 := keepC HB8.out (HLC.out.1 5 _ rfl)
  try simp only [encSeen, encV, encChange, flat, lt5, lw5, lx5, lv, sb, sc, saa, Nat.zero_mul, Nat.one_mul, Nat.add_zero, Nat.zero_add, Nat.reduceMul, Nat.reduceAdd] at z13
  have Z13 := Lib.hid z13
  clear z13
  have z14 := keepC HB8.out (HLC.out.1 6 _ rfl)
  try simp only [encSeen, encV, encChange, flat, lt5, lw5, lx5, lv, sb, sc, saa, Nat.zero_mul, Nat.one_mul, Nat.add_zero, Nat.zero_add, Nat.reduceMul, Nat.reduceAdd] at z14
  have Z14 := Lib.hid z14
  clear z14
  have z15 := keepC HB8.out (HLC.out.1 7 _ rfl)
  try simp only [encSeen, encV, encChange, flat, lt5, lw5, lx5, lv, sb, sc, saa, Nat.zero_mul, Nat.one_mul, Nat.add_zero, Nat.zero_add, Nat.reduceMul, Nat.reduceAdd] at z15
  have Z15 := Lib.hid z15
  clear z15
  have z16 := keepC HB8.out (HLC.out.1 8 _ rfl)
  try simp only [encSeen, encV, encChange, flat, lt5, lw5, lx5, lv, sb, sc, saa, Nat.zero_mul, Nat.one_mul, Nat.add_zero, Nat.zero_add, Nat.reduceMul, Nat.reduceAdd] at z16
  have Z16 := Lib.hid z16
  clear z16
  have z17 := keepC HB8.out (HLC.out.1 9 _ rfl)
  try simp only [encSeen, encV, encChange, flat, lt5, lw5, lx5, lv, sb, sc, saa, Nat.zero_mul, Nat.one_mul, Nat.add_zero, Nat.zero_add, Nat.reduceMul, Nat.reduceAdd] at z17
  have Z17 := Lib.hid z17
  clear z17
  have z18 := HR4.out.at 1 0 rfl rfl
  try simp only [encSeen, encV, encChange, flat, lt5, lw5, lx5, lv, sb, sc, saa, Nat.zero_mul, Nat.one_mul, Nat.add_zero, Nat.zero_add, Nat.reduceMul, Nat.reduceAdd] at z18
  have Z18 := Lib.hid z18
  clear z18
  have z19 := HR5.out.at 0 0 rfl rfl
  try simp only [encSeen, encV, encChange, flat, lt5, lw5, lx5, lv, sb, sc, saa, Nat.zero_mul, Nat.one_mul, Nat.add_zero, Nat.zero_add, Nat.reduceMul, Nat.reduceAdd] at z19
  have Z19 := Lib.hid z19
  clear z19
  have z20 := HR8.out.at 0 0 rfl rfl
  try simp only [encSeen, encV, encChange, flat, lt5, lw5, lx5, lv, sb, sc, saa, Nat.zero_mul, Nat.one_mul, Nat.add_zero, Nat.zero_add, Nat.reduceMul, Nat.reduceAdd] at z20
  have Z20 := Lib.hid z20
  clear z20
  have z21 := HR8.out.at 0 1 rfl rfl
  try simp only [encSeen, encV, encChange, flat, lt5, lw5, lx5, lv, sb, sc, saa, Nat.zero_mul, Nat.one_mul, Nat.add_zero, Nat.zero_add, Nat.reduceMul, Nat.reduceAdd] at z21
  have Z21 := Lib.hid z21
  clear z21
  have z22 := HR8.out.at 0 2 rfl rfl
  try simp only [encSeen, encV, encChange, flat, lt5, lw5, lx5, lv, sb, sc, saa, Nat.zero_mul, Nat.one_mul, Nat.add_zero, Nat.zero_add, Nat.reduceMul, Nat.reduceAdd] at z22
  have Z22 := Lib.hid z22
  clear z22
  have z23 := HR8.out.at 0 3 rfl rfl
  try simp only [encSeen, encV, encChange, flat, lt5, lw5, lx5, lv, sb, sc, saa, Nat.zero_mul, Nat.one_mul, Nat.add_zero, Nat.zero_add, Nat.reduceMul, Nat.reduceAdd] at z23
  have Z23 := Lib.hid z23
  clear z23
  have z24 := HR8.out.at 0 4 rfl rfl
  try simp only [encSeen, encV, encChange, flat, lt5, lw5, lx5, lv, sb, sc, saa, Nat.zero_mul, Nat.one_mul, Nat.add_zero, Nat.zero_add, Nat.reduceMul, Nat.reduceAdd] at z24
  have Z24 := Lib.hid z24
  clear z24
  have z25 := HR8.out.at 0 5 rfl rfl
  try simp only [encSeen, encV, encChange, flat, lt5, lw5, lx5, lv, sb, sc, saa, Nat.zero_mul, Nat.one_mul, Nat.add_zero, Nat.zero_add, Nat.reduceMul, Nat.reduceAdd] at z25
  have Z25 := Lib.hid z25
  clear z25
  have hE : eqVB ⟨4, 0, 5, ⟨#[]⟩⟩ ⟨4, 0, 5, ⟨#[]⟩⟩ = true := by decide
  have hE2 : eqChangeB ⟨⟨#[99]⟩, true, ⟨4, 0, 5, ⟨#[]⟩⟩⟩ ⟨⟨#[99]⟩, true, ⟨4, 0, 5, ⟨#[]⟩⟩⟩ = true := by decide
  have hS5 := l5_sum
  apply wp_region_valsF [some 100, none, none, none, none, none, none, none, none, none, none, none, none, none, none, none, none, none, none, none, none, none, none, none, none, none, none, none, none, none, none, none, none, none, none, none, none, none, none, none, none, none, none, none, none, none, none, none, none, none, none, none, none, none, none, none, none, none, none, none, none, some 0, some 1, some 2, some 3, some 4, some 5, some 6, some 7, some 8, some 9, some 10, some 11, some 12, some 13, some 14, some 15, some 16, some 17, some 18, some 19, some 20, some 21, some 22, some 23, some 24, some 25, some 26, some 27, some 28, some 29, some 30, some 31, some 32, some 33, some 34, some 35, some 36, some 37, some 38, some 39, some 40, some 41, some 42, some 43, some 44, some 45, some 46, some 47, some 48, some 49, some 50, some 51, some 52, some 53, some 54, some 55, some 56, some 57, some 58, some 59, some 60, some 61, some 62, some 63, some 64, some 65, some 66, some 67, some 68, some 69, some 70, some 71, some 72, some 73, some 74, some 75, some 76, some 77, some 78, some 79, some 80, some 81, some 82, some 83, some 84, some 85, some 86, some 87, some 88, some 89, some 90, some 91, some 92, some 93, some 94, some 95, some 96, some 97, some 98, some 99] [VP.is _, VP.is _, VP.is _, VP.is _, VP.is _, VP.is _, VP.is _, VP.is _, VP.is _, VP.is _, VP.is _, VP.is _, VP.is _, VP.is _, VP.is _, VP.is _, VP.is _, VP.is _, VP.is _, VP.is _, VP.is _, VP.is _, VP.is _, VP.is _, VP.is _, VP.is _, VP.is _, VP.is _, VP.is _, VP.is _, VP.is _, VP.is _, VP.is _, VP.is _, VP.is _, VP.is _, VP.is _, VP.is _, VP.is _, VP.is _, VP.is _, VP.is _, VP.is _, VP.is _, VP.is _, VP.is _, VP.is _, VP.is _, VP.is _, VP.is _, VP.is _, VP.is _, VP.is _, VP.is _, VP.is _, VP.is _, VP.is _, VP.is _, VP.is _, VP.is _, VP.is _, VP.is _, VP.is _, VP.is _, VP.is _, VP.is _, VP.is _, VP.is _, VP.is _, VP.is _, VP.is _, VP.is _, VP.is _, VP.is _, VP.is _, VP.is _, VP.is _, VP.is _, VP.is _, VP.is _, VP.is _, VP.is _, VP.is _, VP.is _, VP.is _, VP.is _, VP.is _, VP.is _, VP.is _, VP.is _, VP.is _, VP.is _, VP.is _, VP.is _, VP.is _, VP.is _, VP.slv encSeen 5 ln5, VP.is _, VP.is _, VP.is _, VP.is _]
  · kernel_rfl
  · kernel_rfl
  · exact ⟨trivial, trivial, trivial, rfl, trivial, trivial, rfl, rfl, rfl, trivial, trivial, rfl, rfl, rfl, rfl, rfl, trivial, trivial, rfl, rfl, trivial, trivial, rfl, rfl, trivial, trivial, rfl, rfl, rfl, trivial, trivial, rfl, rfl, rfl, rfl, rfl, trivial, trivial, rfl, rfl, rfl, trivial, trivial, rfl, rfl, rfl, rfl, rfl, trivial, trivial, rfl, rfl, rfl, trivial, trivial, rfl, trivial, trivial, rfl, rfl, trivial, trivial, rfl, rfl, rfl, trivial, trivial, rfl, rfl, rfl, rfl, rfl, rfl, trivial, trivial, rfl, rfl, trivial, trivial, rfl, rfl, rfl, rfl, rfl, trivial, trivial, rfl, rfl, trivial, trivial, rfl, rfl, rfl, rfl, rfl, rfl, rfl, rfl, rfl, trivial, trivial, trivial⟩
  · refine ⟨?_, ?_, ?_, ?_, ?_, ?_, ?_, ?_, ?_, ?_, ?_, ?_, ?_, ?_, ?_, ?_, ?_, ?_, ?_, ?_, ?_, ?_, ?_, ?_, ?_, ?_, ?_, ?_, ?_, ?_, ?_, ?_, ?_, ?_, ?_, ?_, ?_, ?_, ?_, ?_, ?_, ?_, ?_, ?_, ?_, ?_, ?_, ?_, ?_, ?_, ?_, ?_, ?_, ?_, ?_, ?_, ?_, ?_, ?_, ?_, ?_, ?_, ?_, ?_, ?_, ?_, ?_, ?_, ?_, ?_, ?_, ?_, ?_, ?_, ?_, ?_, ?_, ?_, ?_, ?_, ?_, ?_, ?_, ?_, ?_, ?_, ?_, ?_, ?_, ?_, ?_, ?_, ?_, ?_, ?_, ?_, ?_, ?_, ?_, ?_, ?_, trivial⟩
    · intro x w2 hb hd K hK
      simp only [mkF] at hK ⊢
      go_wp2
      exact hK _ _ rfl (Below.refl _ _)
    · intro x w2 hb hd K hK
      have h0 : x 0 = _ := hd 0 (by kernel_rfl)
      simp only [mkF, h0] at hK ⊢
      go_wp2
      exact hK _ _ rfl (Below.refl _ _)
    · intro x w2 hb hd K hK
      have h1 : x 1 = _ := hd 1 (by kernel_rfl)
      simp only [mkF, h1] at hK ⊢
      go_wp2
      exact hK _ _ rfl (Below.refl _ _)
    · intro x w2 hb hd K hK
      simp only [mkF] at hK ⊢
      go_wp2
      exact hK _ _ rfl (Below.refl _ _)
    · intro x w2 hb hd K hK
      have h2 : x 2 = _ := hd 2 (by kernel_rfl)
      have h3 : x 3 = _ := hd 3 (by kernel_rfl)
      simp only [mkF, h2, h3] at hK ⊢
      go_wp2
      exact hK _ _ rfl (Below.refl _ _)
    · intro x w2 hb hd K hK
      have h4 : x 4 = _ := hd 4 (by kernel_rfl)
      simp only [mkF, h4] at hK ⊢
      go_wp2
      exact hK _ _ rfl (Below.refl _ _)
    · intro x w2 hb hd K hK
      simp only [mkF] at hK ⊢
      go_wp2
      exact hK _ _ rfl (Below.refl _ _)
    · intro x w2 hb hd K hK
      simp only [mkF] at hK ⊢
      go_wp2
      exact hK _ _ rfl (Below.refl _ _)
    · intro x w2 hb hd K hK
      have h6 : x 6 = _ := hd 6 (by kernel_rfl)
      have h7 : x 7 = _ := hd 7 (by kernel_rfl)
      simp only [mkF, h6, h7] at hK ⊢
      go_wp2_with (go_at_call 10; refine (W_Same _ _ _ _ w2 (HL8.out.below hb) (HR2.out.below hb)).mono ?_; rintro e w3 ⟨rfl, hb3⟩)
      exact hK _ _ rfl hb3
    · intro x w2 hb hd K hK
      have h5 : x 5 = _ := hd 5 (by kernel_rfl)
      have h8 : x 8 = _ := hd 8 (by kernel_rfl)
      simp only [mkF, h5, h8] at hK ⊢
      go_wp2
      exact hK _ _ rfl (Below.refl _ _)
    · intro x w2 hb hd K hK
      have h9 : x 9 = _ := hd 9 (by kernel_rfl)
      simp only [mkF, h9] at hK ⊢
      go_wp2
      exact hK _ _ rfl (Below.refl _ _)
    · intro x w2 hb hd K hK
      simp only [mkF] at hK ⊢
      go_wp2
      exact hK _ _ rfl (Below.refl _ _)
    · intro x w2 hb hd K hK
      simp only [mkF] at hK ⊢
      go_wp2
      exact hK _ _ rfl (Below.refl _ _)
    · intro x w2 hb hd K hK
      have h12 : x 12 = _ := hd 12 (by kernel_rfl)
      simp only [mkF, h12] at hK ⊢
      go_wp2
      exact hK _ _ rfl (Below.refl _ _)
    · intro x w2 hb hd K hK
      have h13 : x 13 = _ := hd 13 (by kernel_rfl)
      simp only [mkF, h13] at hK ⊢
      go_wp2
      exact hK _ _ rfl (Below.refl _ _)
    · intro x w2 hb hd K hK
      have h11 : x 11 = _ := hd 11 (by kernel_rfl)
      have h14 : x 14 = _ := hd 14 (by kernel_rfl)
      simp only [mkF, h11, h14] at hK ⊢
      go_wp2
      exact hK _ _ rfl (Below.refl _ _)
    · intro x w2 hb hd K hK
      have h10 : x 10 = _ := hd 10 (by kernel_rfl)
      have h15 : x 15 = _ := hd 15 (by kernel_rfl)
      simp only [mkF, h10, h15] at hK ⊢
      go_wp2
      exact hK _ _ rfl (Below.refl _ _)
    · intro x w2 hb hd K hK
      have h16 : x 16 = _ := hd 16 (by kernel_rfl)
      simp only [mkF, h16] at hK ⊢
      go_wp2
      exact hK _ _ rfl (Below.refl _ _)
    · intro x w2 hb hd K hK
      simp only [mkF] at hK ⊢
      go_wp2
      exact hK _ _ rfl (Below.refl _ _)
    · intro x w2 hb hd K hK
      have h18 : x 18 = _ := hd 18 (by kernel_rfl)
      simp only [mkF, h18] at hK ⊢
      go_wp2
      exact hK _ _ rfl (Below.refl _ _)
    · intro x w2 hb hd K hK
      have h17 : x 17 = _ := hd 17 (by kernel_rfl)
      have h19 : x 19 = _ := hd 19 (by kernel_rfl)
      simp only [mkF, h17, h19] at hK ⊢
      go_wp2
      exact hK _ _ rfl (Below.refl _ _)
    · intro x w2 hb hd K hK
      have h20 : x 20 = _ := hd 20 (by kernel_rfl)
      simp only [mkF, h20] at hK ⊢
      go_wp2
      exact hK _ _ rfl (Below.refl _ _)
    · intro x w2 hb hd K hK
      simp only [mkF] at hK ⊢
      go_wp2
      exact hK _ _ rfl (Below.refl _ _)
    · intro x w2 hb hd K hK
      have h22 : x 22 = _ := hd 22 (by kernel_rfl)
      simp only [mkF, h22] at hK ⊢
      go_wp2
      exact hK _ _ rfl (Below.refl _ _)
    · intro x w2 hb hd K hK
      have h21 : x 21 = _ := hd 21 (by kernel_rfl)
      have h23 : x 23 = _ := hd 23 (by kernel_rfl)
      simp only [mkF, h21, h23] at hK ⊢
      go_wp2
      exact hK _ _ rfl (Below.refl _ _)
    · intro x w2 hb hd K hK
      have h24 : x 24 = _ := hd 24 (by kernel_rfl)
      simp only [mkF, h24] at hK ⊢
      go_wp2
      exact hK _ _ rfl (Below.refl _ _)
    · intro x w2 hb hd K hK
      simp only [mkF] at hK ⊢
      go_wp2
      exact hK _ _ rfl (Below.refl _ _)
    · intro x w2 hb hd K hK
      have h26 : x 26 = _ := hd 26 (by kernel_rfl)
      simp only [mkF, h26] at hK ⊢
      go_wp2
      exact hK _ _ rfl (Below.refl _ _)
    · intro x w2 hb hd K hK
      have h27 : x 27 = _ := hd 27 (by kernel_rfl)
      simp only [mkF, h27] at hK ⊢
      go_wp2
      exact hK _ _ rfl (Below.refl _ _)
    · intro x w2 hb hd K hK
      have h25 : x 25 = _ := hd 25 (by kernel_rfl)
      have h28 : x 28 = _ := hd 28 (by kernel_rfl)
      simp only [mkF, h25, h28] at hK ⊢
      go_wp2
      exact hK _ _ rfl (Below.refl _ _)
    · intro x w2 hb hd K hK
      have h29 : x 29 = _ := hd 29 (by kernel_rfl)
      simp only [mkF, h29] at hK ⊢
      go_wp2
      exact hK _ _ rfl (Below.refl _ _)
    · intro x w2 hb hd K hK
      simp only [mkF] at hK ⊢
      go_wp2
      exact hK _ _ rfl (Below.refl _ _)
    · intro x w2 hb hd K hK
      have h31 : x 31 = _ := hd 31 (by kernel_rfl)
      simp only [mkF, h31] at hK ⊢
      go_wp2
      exact hK _ _ rfl (Below.refl _ _)
    · intro x w2 hb hd K hK
      have h32 : x 32 = _ := hd 32 (by kernel_rfl)
      simp only [mkF, h32] at hK ⊢
      go_wp2
      exact hK _ _ rfl (Below.refl _ _)
    · intro x w2 hb hd K hK
      have h33 : x 33 = _ := hd 33 (by kernel_rfl)
      simp only [mkF, h33] at hK ⊢
      have y0 := keepC hb Z0.out; have y1 := keepC hb Z1.out; have y2 := keepC hb Z2.out; have y3 := keepC hb Z3.out; have y4 := keepC hb Z4.out; have y5 := keepC hb Z5.out; have y6 := keepC hb Z6.out; have y7 := keepC hb Z7.out; have y8 := keepC hb Z8.out; have y9 := keepC hb Z9.out; have y10 := keepC hb Z10.out; have y11 := keepC hb Z11.out; have y12 := keepC hb Z12.out; have y13 := keepC hb Z13.out; have y14 := keepC hb Z14.out; have y15 := keepC hb Z15.out; have y16 := keepC hb Z16.out; have y17 := keepC hb Z17.out; have y18 := keepC hb Z18.out; have y19 := keepC hb Z19.out; have y20 := keepC hb Z20.out; have y21 := keepC hb Z21.out; have y22 := keepC hb Z22.out; have y23 := keepC hb Z23.out; have y24 := keepC hb Z24.out; have y25 := keepC hb Z25.out
      go_wp2
      exact hK _ _ rfl (Below.refl _ _)
    · intro x w2 hb hd K hK
      have h34 : x 34 = _ := hd 34 (by kernel_rfl)
      simp only [mkF, h34] at hK ⊢
      go_wp2
      exact hK _ _ rfl (Below.refl _ _)
    · intro x w2 hb hd K hK
      have h30 : x 30 = _ := hd 30 (by kernel_rfl)
      have h35 : x 35 = _ := hd 35 (by kernel_rfl)
      simp only [mkF, h30, h35] at hK ⊢
      go_wp2
      exact hK _ _ rfl (Below.refl _ _)
    · intro x w2 hb hd K hK
      have h36 : x 36 = _ := hd 36 (by kernel_rfl)
      simp only [mkF, h36] at hK ⊢
      go_wp2
      exact hK _ _ rfl (Below.refl _ _)
    · intro x w2 hb hd K hK
      simp only [mkF] at hK ⊢
      go_wp2
      exact hK _ _ rfl (Below.refl _ _)
    · intro x w2 hb hd K hK
      have h38 : x 38 = _ := hd 38 (by kernel_rfl)
      simp only [mkF, h38] at hK ⊢
      go_wp2
      exact hK _ _ rfl (Below.refl _ _)
    · intro x w2 hb hd K hK
      have h39 : x 39 = _ := hd 39 (by kernel_rfl)
      simp only [mkF, h39] at hK ⊢
      go_wp2
      exact hK _ _ rfl (Below.refl _ _)
    · intro x w2 hb hd K hK
      have h37 : x 37 = _ := hd 37 (by kernel_rfl)
      have h40 : x 40 = _ := hd 40 (by kernel_rfl)
      simp only [mkF, h37, h40] at hK ⊢
      go_wp2
      exact hK _ _ rfl (Below.refl _ _)
    · intro x w2 hb hd K hK
      have h41 : x 41 = _ := hd 41 (by kernel_rfl)
      simp only [mkF, h41] at hK ⊢
      go_wp2
      exact hK _ _ rfl (Below.refl _ _)
    · intro x w2 hb hd K hK
      simp only [mkF] at hK ⊢
      go_wp2
      exact hK _ _ rfl (Below.refl _ _)
    · intro x w2 hb hd K hK
      have h43 : x 43 = _ := hd 43 (by kernel_rfl)
      simp only [mkF, h43] at hK ⊢
      go_wp2
      exact hK _ _ rfl (Below.refl _ _)
    · intro x w2 hb hd K hK
      have h44 : x 44 = _ := hd 44 (by kernel_rfl)
      simp only [mkF, h44] at hK ⊢
      go_wp2
      exact hK _ _ rfl (Below.refl _ _)
    · intro x w2 hb hd K hK
      have h45 : x 45 = _ := hd 45 (by kernel_rfl)
      simp only [mkF, h45] at hK ⊢
      have y0 := keepC hb Z0.out; have y1 := keepC hb Z1.out; have y2 := keepC hb Z2.out; have y3 := keepC hb Z3.out; have y4 := keepC hb Z4.out; have y5 := keepC hb Z5.out; have y6 := keepC hb Z6.out; have y7 := keepC hb Z7.out; have y8 := keepC hb Z8.out; have y9 := keepC hb Z9.out; have y10 := keepC hb Z10.out; have y11 := keepC hb Z11.out; have y12 := keepC hb Z12.out; have y13 := keepC hb Z13.out; have y14 := keepC hb Z14.out; have y15 := keepC hb Z15.out; have y16 := keepC hb Z16.out; have y17 := keepC hb Z17.out; have y18 := keepC hb Z18.out; have y19 := keepC hb Z19.out; have y20 := keepC hb Z20.out; have y21 := keepC hb Z21.out; have y22 := keepC hb Z22.out; have y23 := keepC hb Z23.out; have y24 := keepC hb Z24.out; have y25 := keepC hb Z25.out
      go_wp2
      exact hK _ _ rfl (Below.refl _ _)
    · intro x w2 hb hd K hK
      have h46 : x 46 = _ := hd 46 (by kernel_rfl)
      simp only [mkF, h46] at hK ⊢
      go_wp2
      exact hK _ _ rfl (Below.refl _ _)
    · intro x w2 hb hd K hK
      have h42 : x 42 = _ := hd 42 (by kernel_rfl)
      have h47 : x 47 = _ := hd 47 (by kernel_rfl)
      simp only [mkF, h42, h47] at hK ⊢
      go_wp2
      exact hK _ _ rfl (Below.refl _ _)
    · intro x w2 hb hd K hK
      have h48 : x 48 = _ := hd 48 (by kernel_rfl)
      simp only [mkF, h48] at hK ⊢
      go_wp2
      exact hK _ _ rfl (Below.refl _ _)
    · intro x w2 hb hd K hK
      simp only [mkF] at hK ⊢
      have y0 := keepC hb Z0.out; have y1 := keepC hb Z1.out; have y2 := keepC hb Z2.out; have y3 := keepC hb Z3.out; have y4 := keepC hb Z4.out; have y5 := keepC hb Z5.out; have y6 := keepC hb Z6.out; have y7 := keepC hb Z7.out; have y8 := keepC hb Z8.out; have y9 := keepC hb Z9.out; have y10 := keepC hb Z10.out; have y11 := keepC hb Z11.out; have y12 := keepC hb Z12.out; have y13 := keepC hb Z13.out; have y14 := keepC hb Z14.out; have y15 := keepC hb Z15.out; have y16 := keepC hb Z16.out; have y17 := keepC hb Z17.out; have y18 := keepC hb Z18.out; have y19 := keepC hb Z19.out; have y20 := keepC hb Z20.out; have y21 := keepC hb Z21.out; have y22 := keepC hb Z22.out; have y23 := keepC hb Z23.out; have y24 := keepC hb Z24.out; have y25 := keepC hb Z25.out
      go_wp2
      exact hK _ _ rfl (Below.refl _ _)
    · intro x w2 hb hd K hK
      simp only [mkF] at hK ⊢
      have y0 := keepC hb Z0.out; have y1 := keepC hb Z1.out; have y2 := keepC hb Z2.out; have y3 := keepC hb Z3.out; have y4 := keepC hb Z4.out; have y5 := keepC hb Z5.out; have y6 := keepC hb Z6.out; have y7 := keepC hb Z7.out; have y8 := keepC hb Z8.out; have y9 := keepC hb Z9.out; have y10 := keepC hb Z10.out; have y11 := keepC hb Z11.out; have y12 := keepC hb Z12.out; have y13 := keepC hb Z13.out; have y14 := keepC hb Z14.out; have y15 := keepC hb Z15.out; have y16 := keepC hb Z16.out; have y17 := keepC hb Z17.out; have y18 := keepC hb Z18.out; have y19 := keepC hb Z19.out; have y20 := keepC hb Z20.out; have y21 := keepC hb Z21.out; have y22 := keepC hb Z22.out; have y23 := keepC hb Z23.out; have y24 := keepC hb Z24.out; have y25 := keepC hb Z25.out
      go_wp2
      exact hK _ _ rfl (Below.refl _ _)
    · intro x w2 hb hd K hK
      have h50 : x 50 = _ := hd 50 (by kernel_rfl)
      have h51 : x 51 = _ := hd 51 (by kernel_rfl)
      simp only [mkF, h50, h51] at hK ⊢
      go_wp2
      exact hK _ _ rfl (Below.refl _ _)
    · intro x w2 hb hd K hK
      have h49 : x 49 = _ := hd 49 (by kernel_rfl)
      have h52 : x 52 = _ := hd 52 (by kernel_rfl)
      simp only [mkF, h49, h52] at hK ⊢
      go_wp2
      exact hK _ _ rfl (Below.refl _ _)
    · intro x w2 hb hd K hK
      have h53 : x 53 = _ := hd 53 (by kernel_rfl)
      simp only [mkF, h53] at hK ⊢
      go_wp2
      exact hK _ _ rfl (Below.refl _ _)
    · intro x w2 hb hd K hK
      simp only [mkF] at hK ⊢
      go_wp2
      exact hK _ _ rfl (Below.refl _ _)
    · intro x w2 hb hd K hK
      have h54 : x 54 = _ := hd 54 (by kernel_rfl)
      have h55 : x 55 = _ := hd 55 (by kernel_rfl)
      simp only [mkF, h54, h55] at hK ⊢
      go_wp2
      exact hK _ _ rfl (Below.refl _ _)
    · intro x w2 hb hd K hK
      have h56 : x 56 = _ := hd 56 (by kernel_rfl)
      simp only [mkF, h56] at hK ⊢
      go_wp2
      exact hK _ _ rfl (Below.refl _ _)
    · intro x w2 hb hd K hK
      simp only [mkF] at hK ⊢
      go_wp2
      exact hK _ _ rfl (Below.refl _ _)
    · intro x w2 hb hd K hK
      have h58 : x 58 = _ := hd 58 (by kernel_rfl)
      simp only [mkF, h58] at hK ⊢
      go_wp2
      exact hK _ _ rfl (Below.refl _ _)
    · intro x w2 hb hd K hK
      have h57 : x 57 = _ := hd 57 (by kernel_rfl)
      have h59 : x 59 = _ := hd 59 (by kernel_rfl)
      simp only [mkF, h57, h59] at hK ⊢
      go_wp2
      exact hK _ _ rfl (Below.refl _ _)
    · intro x w2 hb hd K hK
      have h60 : x 60 = _ := hd 60 (by kernel_rfl)
      simp only [mkF, h60] at hK ⊢
      go_wp2
      exact hK _ _ rfl (Below.refl _ _)
    · intro x w2 hb hd K hK
      simp only [mkF] at hK ⊢
      go_wp2
      exact hK _ _ rfl (Below.refl _ _)
    · intro x w2 hb hd K hK
      have h62 : x 62 = _ := hd 62 (by kernel_rfl)
      simp only [mkF, h62] at hK ⊢
      go_wp2
      exact hK _ _ rfl (Below.refl _ _)
    · intro x w2 hb hd K hK
      have h63 : x 63 = _ := hd 63 (by kernel_rfl)
      simp only [mkF, h63] at hK ⊢
      go_wp2
      exact hK _ _ rfl (Below.refl _ _)
    · intro x w2 hb hd K hK
      have h61 : x 61 = _ := hd 61 (by kernel_rfl)
      have h64 : x 64 = _ := hd 64 (by kernel_rfl)
      simp only [mkF, h61, h64] at hK ⊢
      go_wp2
      exact hK _ _ rfl (Below.refl _ _)
    · intro x w2 hb hd K hK
      have h65 : x 65 = _ := hd 65 (by kernel_rfl)
      simp only [mkF, h65] at hK ⊢
      go_wp2
      exact hK _ _ rfl (Below.refl _ _)
    · intro x w2 hb hd K hK
      simp only [mkF] at hK ⊢
      go_wp2
      exact hK _ _ rfl (Below.refl _ _)
    · intro x w2 hb hd K hK
      have h67 : x 67 = _ := hd 67 (by kernel_rfl)
      simp only [mkF, h67] at hK ⊢
      go_wp2
      exact hK _ _ rfl (Below.refl _ _)
    · intro x w2 hb hd K hK
      have h68 : x 68 = _ := hd 68 (by kernel_rfl)
      simp only [mkF, h68] at hK ⊢
      have y0 := keepC hb Z0.out; have y1 := keepC hb Z1.out; have y2 := keepC hb Z2.out; have y3 := keepC hb Z3.out; have y4 := keepC hb Z4.out; have y5 := keepC hb Z5.out; have y6 := keepC hb Z6.out; have y7 := keepC hb Z7.out; have y8 := keepC hb Z8.out; have y9 := keepC hb Z9.out; have y10 := keepC hb Z10.out; have y11 := keepC hb Z11.out; have y12 := keepC hb Z12.out; have y13 := keepC hb Z13.out; have y14 := keepC hb Z14.out; have y15 := keepC hb Z15.out; have y16 := keepC hb Z16.out; have y17 := keepC hb Z17.out; have y18 := keepC hb Z18.out; have y19 := keepC hb Z19.out; have y20 := keepC hb Z20.out; have y21 := keepC hb Z21.out; have y22 := keepC hb Z22.out; have y23 := keepC hb Z23.out; have y24 := keepC hb Z24.out; have y25 := keepC hb Z25.out
      go_wp2
      exact hK _ _ rfl (Below.refl _ _)
    · intro x w2 hb hd K hK
      simp only [mkF] at hK ⊢
      have y0 := keepC hb Z0.out; have y1 := keepC hb Z1.out; have y2 := keepC hb Z2.out; have y3 := keepC hb Z3.out; have y4 := keepC hb Z4.out; have y5 := keepC hb Z5.out; have y6 := keepC hb Z6.out; have y7 := keepC hb Z7.out; have y8 := keepC hb Z8.out; have y9 := keepC hb Z9.out; have y10 := keepC hb Z10.out; have y11 := keepC hb Z11.out; have y12 := keepC hb Z12.out; have y13 := keepC hb Z13.out; have y14 := keepC hb Z14.out; have y15 := keepC hb Z15.out; have y16 := keepC hb Z16.out; have y17 := keepC hb Z17.out; have y18 := keepC hb Z18.out; have y19 := keepC hb Z19.out; have y20 := keepC hb Z20.out; have y21 := keepC hb Z21.out; have y22 := keepC hb Z22.out; have y23 := keepC hb Z23.out; have y24 := keepC hb Z24.out; have y25 := keepC hb Z25.out
      go_wp2
      exact hK _ _ rfl (Below.refl _ _)
    · intro x w2 hb hd K hK
      have h70 : x 70 = _ := hd 70 (by kernel_rfl)
      simp only [mkF, h70] at hK ⊢
      go_wp2
      exact hK _ _ rfl (Below.refl _ _)
    · intro x w2 hb hd K hK
      have h69 : x 69 = _ := hd 69 (by kernel_rfl)
      have h71 : x 71 = _ := hd 71 (by kernel_rfl)
      simp only [mkF, h69, h71] at hK ⊢
      go_wp2
      exact hK _ _ rfl (Below.refl _ _)
    · intro x w2 hb hd K hK
      have h66 : x 66 = _ := hd 66 (by kernel_rfl)
      have h72 : x 72 = _ := hd 72 (by kernel_rfl)
      simp only [mkF, h66, h72] at hK ⊢
      go_wp2
      exact hK _ _ rfl (Below.refl _ _)
    · intro x w2 hb hd K hK
      have h73 : x 73 = _ := hd 73 (by kernel_rfl)
      simp only [mkF, h73] at hK ⊢
      go_wp2
      exact hK _ _ rfl (Below.refl _ _)
    · intro x w2 hb hd K hK
      simp only [mkF] at hK ⊢
      go_wp2_with (go_at_call 31; refine (W_Sum0 w2).mono ?_; rintro e w3 ⟨rfl, hb3⟩)
      exact hK _ _ rfl hb3
    · intro x w2 hb hd K hK
      have h75 : x 75 = _ := hd 75 (by kernel_rfl)
      simp only [mkF, h75] at hK ⊢
      go_wp2
      exact hK _ _ rfl (Below.refl _ _)
    · intro x w2 hb hd K hK
      have h74 : x 74 = _ := hd 74 (by kernel_rfl)
      have h76 : x 76 = _ := hd 76 (by kernel_rfl)
      simp only [mkF, h74, h76] at hK ⊢
      go_wp2
      exact hK _ _ rfl (Below.refl _ _)
    · intro x w2 hb hd K hK
      have h77 : x 77 = _ := hd 77 (by kernel_rfl)
      simp only [mkF, h77] at hK ⊢
      go_wp2
      exact hK _ _ rfl (Below.refl _ _)
    · intro x w2 hb hd K hK
      simp only [mkF] at hK ⊢
      go_wp2
      exact hK _ _ rfl (Below.refl _ _)
    · intro x w2 hb hd K hK
      have h79 : x 79 = _ := hd 79 (by kernel_rfl)
      simp only [mkF, h79] at hK ⊢
      go_wp2_with (go_at_call 31; refine (W_Sum _ _ lt5 w2 (.inl rfl) (HL8.out.below hb)).mono ?_; rintro e w3 ⟨rfl, hb3⟩)
      exact hK _ _ rfl hb3
    · intro x w2 hb hd K hK
      simp only [mkF] at hK ⊢
      go_wp2
      exact hK _ _ rfl (Below.refl _ _)
    · intro x w2 hb hd K hK
      have h81 : x 81 = _ := hd 81 (by kernel_rfl)
      simp only [mkF, h81] at hK ⊢
      go_wp2_with (go_at_call 31; refine (W_Sum _ _ lx5 w2 (.inr (.inl rfl)) (HR5.out.below hb)).mono ?_; rintro e w3 ⟨rfl, hb3⟩)
      exact hK _ _ rfl hb3
    · intro x w2 hb hd K hK
      have h80 : x 80 = _ := hd 80 (by kernel_rfl)
      have h82 : x 82 = _ := hd 82 (by kernel_rfl)
      simp only [mkF, h80, h82] at hK ⊢
      go_wp2
      exact hK _ _ rfl (Below.refl _ _)
    · intro x w2 hb hd K hK
      have h78 : x 78 = _ := hd 78 (by kernel_rfl)
      have h83 : x 83 = _ := hd 83 (by kernel_rfl)
      simp only [mkF, h78, h83] at hK ⊢
      go_wp2
      exact hK _ _ rfl (Below.refl _ _)
    · intro x w2 hb hd K hK
      have h84 : x 84 = _ := hd 84 (by kernel_rfl)
      simp only [mkF, h84] at hK ⊢
      go_wp2
      exact hK _ _ rfl (Below.refl _ _)
    · intro x w2 hb hd K hK
      simp only [mkF] at hK ⊢
      go_wp2
      exact hK _ _ rfl (Below.refl _ _)
    · intro x w2 hb hd K hK
      have h86 : x 86 = _ := hd 86 (by kernel_rfl)
      simp only [mkF, h86] at hK ⊢
      go_wp2_with (go_at_call 32; refine (W_May1 _ _ w2 (HL8.out.below hb)).mono ?_; rintro e w3 ⟨rfl, hb3⟩)
      exact hK _ _ rfl hb3
    · intro x w2 hb hd K hK
      have h85 : x 85 = _ := hd 85 (by kernel_rfl)
      have h87 : x 87 = _ := hd 87 (by kernel_rfl)
      simp only [mkF, h85, h87] at hK ⊢
      go_wp2
      exact hK _ _ rfl (Below.refl _ _)
    · intro x w2 hb hd K hK
      have h88 : x 88 = _ := hd 88 (by kernel_rfl)
      simp only [mkF, h88] at hK ⊢
      go_wp2
      exact hK _ _ rfl (Below.refl _ _)
    · intro x w2 hb hd K hK
      simp only [mkF] at hK ⊢
      go_wp2
      exact hK _ _ rfl (Below.refl _ _)
    · intro x w2 hb hd K hK
      have h90 : x 90 = _ := hd 90 (by kernel_rfl)
      simp only [mkF, h90] at hK ⊢
      go_wp2
      exact hK _ _ rfl (Below.refl _ _)
    · intro x w2 hb hd K hK
      have h91 : x 91 = _ := hd 91 (by kernel_rfl)
      simp only [mkF, h91] at hK ⊢
      have y0 := keepC hb Z0.out; have y1 := keepC hb Z1.out; have y2 := keepC hb Z2.out; have y3 := keepC hb Z3.out; have y4 := keepC hb Z4.out; have y5 := keepC hb Z5.out; have y6 := keepC hb Z6.out; have y7 := keepC hb Z7.out; have y8 := keepC hb Z8.out; have y9 := keepC hb Z9.out; have y10 := keepC hb Z10.out; have y11 := keepC hb Z11.out; have y12 := keepC hb Z12.out; have y13 := keepC hb Z13.out; have y14 := keepC hb Z14.out; have y15 := keepC hb Z15.out; have y16 := keepC hb Z16.out; have y17 := keepC hb Z17.out; have y18 := keepC hb Z18.out; have y19 := keepC hb Z19.out; have y20 := keepC hb Z20.out; have y21 := keepC hb Z21.out; have y22 := keepC hb Z22.out; have y23 := keepC hb Z23.out; have y24 := keepC hb Z24.out; have y25 := keepC hb Z25.out
      go_wp2
      exact hK _ _ rfl (Below.refl _ _)
    · intro x w2 hb hd K hK
      simp only [mkF] at hK ⊢
      go_wp2
      exact hK _ _ rfl (Below.refl _ _)
    · intro x w2 hb hd K hK
      have h93 : x 93 = _ := hd 93 (by kernel_rfl)
      simp only [mkF, h93] at hK ⊢
      go_wp2
      exact hK _ _ rfl (Below.refl _ _)
    · intro x w2 hb hd K hK
      have h94 : x 94 = _ := hd 94 (by kernel_rfl)
      simp only [mkF, h94] at hK ⊢
      have y0 := keepC hb Z0.out; have y1 := keepC hb Z1.out; have y2 := keepC hb Z2.out; have y3 := keepC hb Z3.out; have y4 := keepC hb Z4.out; have y5 := keepC hb Z5.out; have y6 := keepC hb Z6.out; have y7 := keepC hb Z7.out; have y8 := keepC hb Z8.out; have y9 := keepC hb Z9.out; have y10 := keepC hb Z10.out; have y11 := keepC hb Z11.out; have y12 := keepC hb Z12.out; have y13 := keepC hb Z13.out; have y14 := keepC hb Z14.out; have y15 := keepC hb Z15.out; have y16 := keepC hb Z16.out; have y17 := keepC hb Z17.out; have y18 := keepC hb Z18.out; have y19 := keepC hb Z19.out; have y20 := keepC hb Z20.out; have y21 := keepC hb Z21.out; have y22 := keepC hb Z22.out; have y23 := keepC hb Z23.out; have y24 := keepC hb Z24.out; have y25 := keepC hb Z25.out
      go_wp2
      exact hK _ _ rfl (Below.refl _ _)
    · intro x w2 hb hd K hK
      have h92 : x 92 = _ := hd 92 (by kernel_rfl)
      have h95 : x 95 = _ := hd 95 (by kernel_rfl)
      simp only [mkF, h92, h95] at hK ⊢
      go_wp2
      exact hK _ _ ⟨some ⟨w2.heap.size, 0, none⟩, 2, rfl, by decide, by decide, freshRow encSeenK w2 _ _ rfl ln5 rfl (by decide) _⟩ ((Below.refl _ _).alloc (Nat.le_refl _) _)
    · intro x w2 hb hd K hK
      obtain ⟨A96, c96, h96, hle96, hcm96, hr96⟩ := show SlV encSeen 5 w2 (x 96) ln5 from hd 96 (by kernel_rfl)
      simp only [mkF, h96] at hK ⊢
      go_wp2_with (go_at_call 32; refine (W_May2 _ _ w2 hr96).mono ?_; rintro e w3 ⟨rfl, hb3⟩)
      exact hK _ _ rfl hb3
    · intro x w2 hb hd K hK
      have h97 : x 97 = _ := hd 97 (by kernel_rfl)
      simp only [mkF, h97] at hK ⊢
      go_wp2
      exact hK _ _ rfl (Below.refl _ _)
    · intro x w2 hb hd K hK
      have h89 : x 89 = _ := hd 89 (by kernel_rfl)
      have h98 : x 98 = _ := hd 98 (by kernel_rfl)
      simp only [mkF, h89, h98] at hK ⊢
      go_wp2
      exact hK _ _ rfl (Below.refl _ _)
    · intro x w2 hb hd K hK
      have h99 : x 99 = _ := hd 99 (by kernel_rfl)
      simp only [mkF, h99] at hK ⊢
      go_wp2
      exact hK _ _ rfl (Below.refl _ _)
  · intro x w2 hb hx
    have h100 : x 100 = _ := hx 100 (by decide)
    simp only [mkF, h100]
    go_wp2
    go_ret
    exact ⟨rfl, HB.out.trans ((HB8.out.trans (hb.mono HB8.out.size)).mono HB.out.size)⟩
end Go.Proofs.Ytialmfbjkegjoaa
