/- The walk of DigestTwo. -/
import Derived.Test.YtialmfbjkegjoaaX
set_option linter.unusedVariables false
set_option linter.unusedSimpArgs false
namespace Go.Proofs.Ytialmfbjkegjoaa
open Go.RowKit

theorem Same_yes (A B : Option Addr) (n m : Nat) (xs ys : List PSeen) (w : World) (h : RdS encSeen 5 w A xs) (g : RdS encSeen 5 w B ys) (e : xs = ys) : Calls Try.prog 10 #[.slice A xs.length n, .slice B ys.length m] w fun e w' => e = .returned (.bool true) ∧ Below w.heap.size w w' := by
  have := ref05_Same A B n m xs ys w h g
  rw [decide_eq_true e] at this
  exact this
def guardB (t : List PSeen) (a b : PChange) : Prop := few5 t = true ∧ mayT less3 t = true ∧ a.contact.size ≤ 60 ∧ b.contact.size ≤ 60 ∧ a.value.status.size ≤ 100 ∧ b.value.status.size ≤ 100
theorem guard_not {t : List PSeen} {a b : PChange} (h : ¬ guardB t a b) : few5 t = false ∨ (few5 t = true ∧ mayT less3 t = false) ∨ (few5 t = true ∧ mayT less3 t = true ∧ 60 < a.contact.size) ∨ (few5 t = true ∧ mayT less3 t = true ∧ a.contact.size ≤ 60 ∧ 60 < b.contact.size) ∨ (few5 t = true ∧ mayT less3 t = true ∧ a.contact.size ≤ 60 ∧ b.contact.size ≤ 60 ∧ 100 < a.value.status.size) ∨ (few5 t = true ∧ mayT less3 t = true ∧ a.contact.size ≤ 60 ∧ b.contact.size ≤ 60 ∧ a.value.status.size ≤ 100 ∧ 100 < b.value.status.size) := by
  unfold guardB at h
  cases hf : few5 t
  · exact .inl rfl
  cases hm : mayT less3 t
  · exact .inr (.inl ⟨rfl, rfl⟩)
  by_cases h3 : a.contact.size ≤ 60
  · by_cases h4 : b.contact.size ≤ 60
    · by_cases h5 : a.value.status.size ≤ 100
      · by_cases h6 : b.value.status.size ≤ 100
        · exact absurd ⟨hf, hm, h3, h4, h5, h6⟩ h
        · exact .inr (.inr (.inr (.inr (.inr ⟨rfl, rfl, h3, h4, h5, by omega⟩))))
      · exact .inr (.inr (.inr (.inr (.inl ⟨rfl, rfl, h3, h4, by omega⟩))))
    · exact .inr (.inr (.inr (.inl ⟨rfl, rfl, h3, by omega⟩)))
  · exact .inr (.inr (.inl ⟨rfl, rfl, by omega⟩))
set_option maxHeartbeats 4000000 in
set_option maxRecDepth 100000 in
theorem DigestTwo_walk (A : Option Addr) (n : Nat) (t : List PSeen) (a b : PChange) (w : World) (h : RdS encSeen 5 w A t) (hn : t.length ≤ n) (ho : ∀ x ∈ t, okSeen x) (ha : okStr a.contact ∧ okStr a.value.status) (hb : okStr b.contact ∧ okStr b.value.status) :
    Calls Try.prog 3 #[.slice A t.length n, .agg #[.string a.contact, .bool a.on, .int .i64 a.value.show_, .int .i64 a.value.prio, .int .i64 a.value.since, .string a.value.status], .agg #[.string b.contact, .bool b.on, .int .i64 b.value.show_, .int .i64 b.value.prio, .int .i64 b.value.since, .string b.value.status]] w fun e w' => e = .returned (.bool true) ∧ Below w.heap.size w w' := by
  obtain ⟨W1, hW1⟩ : ∃ W1, W1 = (w.alloc (.cells #[.string a.contact, .bool a.on, .int .i64 a.value.show_, .int .i64 a.value.prio, .int .i64 a.value.since, .string a.value.status] 26)).alloc (.cells #[.string b.contact, .bool b.on, .int .i64 b.value.show_, .int .i64 b.value.prio, .int .i64 b.value.since, .string b.value.status] 26) := ⟨_, rfl⟩
  obtain ⟨hca, hcb, hB1⟩ := cells_two w [.string a.contact, .bool a.on, .int .i64 a.value.show_, .int .i64 a.value.prio, .int .i64 a.value.since, .string a.value.status] [.string b.contact, .bool b.on, .int .i64 b.value.show_, .int .i64 b.value.prio, .int .i64 b.value.since, .string b.value.status] 26 26
  rw [show ((w.alloc (.cells (List.toArray [.string a.contact, .bool a.on, .int .i64 a.value.show_, .int .i64 a.value.prio, .int .i64 a.value.since, .string a.value.status]) 26)).alloc (.cells (List.toArray [.string b.contact, .bool b.on, .int .i64 b.value.show_, .int .i64 b.value.prio, .int .i64 b.value.since, .string b.value.status]) 26)) = W1 from hW1.symm] at hca hcb hB1
  have PA0 := Lib.hid (hca.1 0 _ rfl)
  have PB0 := Lib.hid (hcb.1 0 _ rfl)
  have PA1 := Lib.hid (hca.1 1 _ rfl)
  have PB1 := Lib.hid (hcb.1 1 _ rfl)
  have PA2 := Lib.hid (hca.1 2 _ rfl)
  have PB2 := Lib.hid (hcb.1 2 _ rfl)
  have PA3 := Lib.hid (hca.1 3 _ rfl)
  have PB3 := Lib.hid (hcb.1 3 _ rfl)
  have PA4 := Lib.hid (hca.1 4 _ rfl)
  have PB4 := Lib.hid (hcb.1 4 _ rfl)
  have PA5 := Lib.hid (hca.1 5 _ rfl)
  have PB5 := Lib.hid (hcb.1 5 _ rfl)
  have HT := Lib.hid (h.below hB1)
  have HB1 := Lib.hid hB1
  have HO := Lib.hid ho
  have HW1 := Lib.hid hW1.symm
  clear h hB1 ho hW1 hca hcb
  unfold okStr at ha hb
  obtain ⟨ha1, ha2⟩ := ha
  obtain ⟨hb1, hb2⟩ := hb
  have hF := fun W (hb : Below W1.heap.size W1 W) => ref05_Few A n t W (HT.out.below hb)
  have hM := fun W (hb : Below W1.heap.size W1 W) => ref05_May A n t W (HT.out.below hb) HO.out
  have HF := Lib.hid hF
  have HM := Lib.hid hM
  clear hF hM
  by_cases hg : guardB t a b
  · obtain ⟨h1, h2, h3, h4, h5, h6⟩ := hg
    have HN := Lib.hid hn
    have hln : t.length ≤ 40 := by
      unfold few5 at h1
      simp only [Bool.and_eq_true, decide_eq_true_eq] at h1
      exact h1.1
    have HLN := Lib.hid hln
    clear hn hln
    go_enter Try.func3, Try.ntmps3
    go_upto_region 3 with (first | (go_at_call 6; rw [HW1.out]; refine (HF.out W1 (Below.refl _ _)).mono ?_; rw [h1]; rintro e w1 ⟨rfl, hb1⟩) | (go_at_call 7; refine (HM.out w1 hb1).mono ?_; rw [h2]; rintro e w2 ⟨rfl, hb2⟩; have HB2 := Lib.hid (hb1.trans (hb2.mono hb1.size)); have p0 := keepC HB2.out PA0.out; have q0 := keepC HB2.out PB0.out; have p5 := keepC HB2.out PA5.out; have q5 := keepC HB2.out PB5.out))
    apply wp_region_valsF [none, none, none, none, none, none, none, some 5, none, none, none, none, none, none, none, none, none, none, none, none, none, none, none, none, none, none, none, none, none, none, none, none, none, none, none, none, none, none, none, none, none, none, none, none, some 0, some 1, some 2, some 3, some 4, none, none, none, none, none, none, none, none, none, none, none, none, none, none, none, none, none, none, none, none, none, none, none, none, none, none, none, none, none, none, none, none, none, none, none, none, none, none, none, none, none] [VP.is _, VP.is _, VP.slv encSeen 5 (setS t a), VP.is _, VP.slv encSeen 5 (setS (setS t a) b), VP.slv encSeen 5 (setS (setS t a) b)]
    · kernel_rfl
    · kernel_rfl
    · exact ⟨trivial, trivial, trivial, trivial, trivial, trivial, trivial⟩
    · refine ⟨?_, ?_, ?_, ?_, ?_, ?_, trivial⟩
      · intro x w2 hb hd K hK
        simp only [mkF] at hK ⊢
        go_wp2
        exact hK _ _ rfl (Below.refl _ _)
      · intro x w2 hb hd K hK
        simp only [mkF] at hK ⊢
        have hbb := HB2.out.trans (hb.mono HB2.out.size); have p0 := keepC hbb PA0.out; have p1 := keepC hbb PA1.out; have p2 := keepC hbb PA2.out; have p3 := keepC hbb PA3.out; have p4 := keepC hbb PA4.out; have p5 := keepC hbb PA5.out; have q0 := keepC hbb PB0.out; have q1 := keepC hbb PB1.out; have q2 := keepC hbb PB2.out; have q3 := keepC hbb PB3.out; have q4 := keepC hbb PB4.out; have q5 := keepC hbb PB5.out
        go_wp2
        exact hK _ _ rfl (Below.refl _ _)
      · intro x w2 hb hd K hK
        have h0 : x 0 = _ := hd 0 (by kernel_rfl)
        have h1 : x 1 = _ := hd 1 (by kernel_rfl)
        simp only [mkF, h0, h1] at hK ⊢
        go_wp2_with (go_at_call 9; refine (digest_Set A n t a w2 (HT.out.below (HB2.out.trans (hb.mono HB2.out.size))) HN.out (by have := HLN.out; omega)).mono ?_; rintro e w3 ⟨v9, rfl, hs9, hb3⟩)
        exact hK _ _ hs9 hb3
      · intro x w2 hb hd K hK
        simp only [mkF] at hK ⊢
        have hbb := HB2.out.trans (hb.mono HB2.out.size); have p0 := keepC hbb PA0.out; have p1 := keepC hbb PA1.out; have p2 := keepC hbb PA2.out; have p3 := keepC hbb PA3.out; have p4 := keepC hbb PA4.out; have p5 := keepC hbb PA5.out; have q0 := keepC hbb PB0.out; have q1 := keepC hbb PB1.out; have q2 := keepC hbb PB2.out; have q3 := keepC hbb PB3.out; have q4 := keepC hbb PB4.out; have q5 := keepC hbb PB5.out
        go_wp2
        exact hK _ _ rfl (Below.refl _ _)
      · intro x w2 hb hd K hK
        obtain ⟨A2, c2, h2, hle2, hcm2, hr2⟩ := show SlV encSeen 5 w2 (x 2) (setS t a) from hd 2 (by kernel_rfl)
        have h3 : x 3 = _ := hd 3 (by kernel_rfl)
        simp only [mkF, h2, h3] at hK ⊢
        go_wp2_with (go_at_call 9; refine (digest_Set A2 c2 (setS t a) b w2 hr2 hle2 (by have := setS_len t a; have := HLN.out; omega)).mono ?_; rintro e w3 ⟨v9, rfl, hs9, hb3⟩)
        exact hK _ _ hs9 hb3
      · intro x w2 hb hd K hK
        obtain ⟨A4, c4, h4, hle4, hcm4, hr4⟩ := show SlV encSeen 5 w2 (x 4) (setS (setS t a) b) from hd 4 (by kernel_rfl)
        simp only [mkF, h4] at hK ⊢
        go_wp2
        exact hK _ _ ⟨A4, c4, rfl, hle4, hcm4, hr4⟩ (Below.refl _ _)
    · intro x w3 hb hx
      obtain ⟨A7, c7, e7, hle7, _, hr7⟩ := (show SlV encSeen 5 w3 (x 5) (setS (setS t a) b) from hx 5 (by decide))
      simp only [mkF, e7]
      have HB3 := Lib.hid (HB2.out.trans (hb.mono HB2.out.size))
      have HR7 := Lib.hid hr7
      clear hb hx e7 hr7 p0 q0 p5 q5
      go_upto_region 4 with (fail)
      apply wp_region_valsF [none, none, none, none, none, none, none, none, some 5, none, none, none, none, none, none, none, none, none, none, none, none, none, none, none, none, none, none, none, none, none, none, none, none, none, none, none, none, none, none, none, none, none, none, none, none, none, none, none, none, some 0, some 1, some 2, some 3, some 4, none, none, none, none, none, none, none, none, none, none, none, none, none, none, none, none, none, none, none, none, none, none, none, none, none, none, none, none, none, none, none, none, none, none, none, none] [VP.is _, VP.is _, VP.slv encSeen 5 (setS t b), VP.is _, VP.slv encSeen 5 (setS (setS t b) a), VP.slv encSeen 5 (setS (setS t b) a)]
      · kernel_rfl
      · kernel_rfl
      · exact ⟨trivial, trivial, trivial, trivial, trivial, trivial, trivial⟩
      · refine ⟨?_, ?_, ?_, ?_, ?_, ?_, trivial⟩
        · intro x w2 hb hd K hK
          simp only [mkF] at hK ⊢
          go_wp2
          exact hK _ _ rfl (Below.refl _ _)
        · intro x w2 hb hd K hK
          simp only [mkF] at hK ⊢
          have hbb := HB3.out.trans (hb.mono HB3.out.size); have p0 := keepC hbb PA0.out; have p1 := keepC hbb PA1.out; have p2 := keepC hbb PA2.out; have p3 := keepC hbb PA3.out; have p4 := keepC hbb PA4.out; have p5 := keepC hbb PA5.out; have q0 := keepC hbb PB0.out; have q1 := keepC hbb PB1.out; have q2 := keepC hbb PB2.out; have q3 := keepC hbb PB3.out; have q4 := keepC hbb PB4.out; have q5 := keepC hbb PB5.out
          go_wp2
          exact hK _ _ rfl (Below.refl _ _)
        · intro x w2 hb hd K hK
          have h0 : x 0 = _ := hd 0 (by kernel_rfl)
          have h1 : x 1 = _ := hd 1 (by kernel_rfl)
          simp only [mkF, h0, h1] at hK ⊢
          go_wp2_with (go_at_call 9; refine (digest_Set A n t b w2 (HT.out.below (HB3.out.trans (hb.mono HB3.out.size))) HN.out (by have := HLN.out; omega)).mono ?_; rintro e w3 ⟨v9, rfl, hs9, hb3⟩)
          exact hK _ _ hs9 hb3
        · intro x w2 hb hd K hK
          simp only [mkF] at hK ⊢
          have hbb := HB3.out.trans (hb.mono HB3.out.size); have p0 := keepC hbb PA0.out; have p1 := keepC hbb PA1.out; have p2 := keepC hbb PA2.out; have p3 := keepC hbb PA3.out; have p4 := keepC hbb PA4.out; have p5 := keepC hbb PA5.out; have q0 := keepC hbb PB0.out; have q1 := keepC hbb PB1.out; have q2 := keepC hbb PB2.out; have q3 := keepC hbb PB3.out; have q4 := keepC hbb PB4.out; have q5 := keepC hbb PB5.out
          go_wp2
          exact hK _ _ rfl (Below.refl _ _)
        · intro x w2 hb hd K hK
          obtain ⟨A2, c2, h2, hle2, hcm2, hr2⟩ := show SlV encSeen 5 w2 (x 2) (setS t b) from hd 2 (by kernel_rfl)
          have h3 : x 3 = _ := hd 3 (by kernel_rfl)
          simp only [mkF, h2, h3] at hK ⊢
          go_wp2_with (go_at_call 9; refine (digest_Set A2 c2 (setS t b) a w2 hr2 hle2 (by have := setS_len t b; have := HLN.out; omega)).mono ?_; rintro e w3 ⟨v9, rfl, hs9, hb3⟩)
          exact hK _ _ hs9 hb3
        · intro x w2 hb hd K hK
          obtain ⟨A4, c4, h4, hle4, hcm4, hr4⟩ := show SlV encSeen 5 w2 (x 4) (setS (setS t b) a) from hd 4 (by kernel_rfl)
          simp only [mkF, h4] at hK ⊢
          go_wp2
          exact hK _ _ ⟨A4, c4, rfl, hle4, hcm4, hr4⟩ (Below.refl _ _)
      · intro y w4 hb hx
        obtain ⟨A8, c8, e8, hle8, _, hr8⟩ := (show SlV encSeen 5 w4 (y 5) (setS (setS t b) a) from hx 5 (by decide))
        simp only [mkF, e8]
        have HR7 := Lib.hid (HR7.out.below hb)
        have HB4 := Lib.hid (HB3.out.trans (hb.mono HB3.out.size))
        have HR8 := Lib.hid hr8
        clear hb hx e8 hr8
        go_upto_region 5 with (fail)
        apply wp_region_valsF [none, none, none, none, none, none, none, none, none, none, none, none, none, none, none, none, none, none, none, none, none, none, none, none, none, none, none, none, none, none, none, none, none, none, none, none, none, none, none, none, none, none, none, none, none, none, none, none, none, none, none, none, none, none, some 0, some 1, some 2, some 3, some 4, some 5, some 6, some 7, some 8, some 9, none, none, none, none, none, none, none, none, none, none, none, none, none, none, none, none, none, none, none, none, none, none, none, none, none, none] [VP.is _, VP.is _, VP.slv encSeen 5 (setS t a), VP.is _, VP.slv encSeen 5 (setS (setS t a) a), VP.is _, VP.is _, VP.slv encSeen 5 (setS t a), VP.is _, VP.is _]
        · kernel_rfl
        · kernel_rfl
        · exact ⟨trivial, trivial, trivial, trivial, trivial, trivial, trivial, trivial, trivial, trivial, trivial⟩
        · refine ⟨?_, ?_, ?_, ?_, ?_, ?_, ?_, ?_, ?_, ?_, trivial⟩
          · intro x w2 hb hd K hK
            simp only [mkF] at hK ⊢
            go_wp2
            exact hK _ _ rfl (Below.refl _ _)
          · intro x w2 hb hd K hK
            simp only [mkF] at hK ⊢
            have hbb := HB4.out.trans (hb.mono HB4.out.size); have p0 := keepC hbb PA0.out; have p1 := keepC hbb PA1.out; have p2 := keepC hbb PA2.out; have p3 := keepC hbb PA3.out; have p4 := keepC hbb PA4.out; have p5 := keepC hbb PA5.out; have q0 := keepC hbb PB0.out; have q1 := keepC hbb PB1.out; have q2 := keepC hbb PB2.out; have q3 := keepC hbb PB3.out; have q4 := keepC hbb PB4.out; have q5 := keepC hbb PB5.out
            go_wp2
            exact hK _ _ rfl (Below.refl _ _)
          · intro x w2 hb hd K hK
            have h0 : x 0 = _ := hd 0 (by kernel_rfl)
            have h1 : x 1 = _ := hd 1 (by kernel_rfl)
            simp only [mkF, h0, h1] at hK ⊢
            go_wp2_with (go_at_call 9; refine (digest_Set A n t a w2 (HT.out.below (HB4.out.trans (hb.mono HB4.out.size))) HN.out (by have := HLN.out; omega)).mono ?_; rintro e w3 ⟨v9, rfl, hs9, hb3⟩)
            exact hK _ _ hs9 hb3
          · intro x w2 hb hd K hK
            simp only [mkF] at hK ⊢
            have hbb := HB4.out.trans (hb.mono HB4.out.size); have p0 := keepC hbb PA0.out; have p1 := keepC hbb PA1.out; have p2 := keepC hbb PA2.out; have p3 := keepC hbb PA3.out; have p4 := keepC hbb PA4.out; have p5 := keepC hbb PA5.out; have q0 := keepC hbb PB0.out; have q1 := keepC hbb PB1.out; have q2 := keepC hbb PB2.out; have q3 := keepC hbb PB3.out; have q4 := keepC hbb PB4.out; have q5 := keepC hbb PB5.out
            go_wp2
            exact hK _ _ rfl (Below.refl _ _)
          · intro x w2 hb hd K hK
            obtain ⟨A2, c2, h2, hle2, hcm2, hr2⟩ := show SlV encSeen 5 w2 (x 2) (setS t a) from hd 2 (by kernel_rfl)
            have h3 : x 3 = _ := hd 3 (by kernel_rfl)
            simp only [mkF, h2, h3] at hK ⊢
            go_wp2_with (go_at_call 9; refine (digest_Set A2 c2 (setS t a) a w2 hr2 hle2 (by have := setS_len t a; have := HLN.out; omega)).mono ?_; rintro e w3 ⟨v9, rfl, hs9, hb3⟩)
            exact hK _ _ hs9 hb3
          · intro x w2 hb hd K hK
            simp only [mkF] at hK ⊢
            go_wp2
            exact hK _ _ rfl (Below.refl _ _)
          · intro x w2 hb hd K hK
            simp only [mkF] at hK ⊢
            have hbb := HB4.out.trans (hb.mono HB4.out.size); have p0 := keepC hbb PA0.out; have p1 := keepC hbb PA1.out; have p2 := keepC hbb PA2.out; have p3 := keepC hbb PA3.out; have p4 := keepC hbb PA4.out; have p5 := keepC hbb PA5.out; have q0 := keepC hbb PB0.out; have q1 := keepC hbb PB1.out; have q2 := keepC hbb PB2.out; have q3 := keepC hbb PB3.out; have q4 := keepC hbb PB4.out; have q5 := keepC hbb PB5.out
            go_wp2
            exact hK _ _ rfl (Below.refl _ _)
          · intro x w2 hb hd K hK
            have h5 : x 5 = _ := hd 5 (by kernel_rfl)
            have h6 : x 6 = _ := hd 6 (by kernel_rfl)
            simp only [mkF, h5, h6] at hK ⊢
            go_wp2_with (go_at_call 9; refine (digest_Set A n t a w2 (HT.out.below (HB4.out.trans (hb.mono HB4.out.size))) HN.out (by have := HLN.out; omega)).mono ?_; rintro e w3 ⟨v9, rfl, hs9, hb3⟩)
            exact hK _ _ hs9 hb3
          · intro x w2 hb hd K hK
            obtain ⟨A4, c4, h4, hle4, hcm4, hr4⟩ := show SlV encSeen 5 w2 (x 4) (setS (setS t a) a) from hd 4 (by kernel_rfl)
            obtain ⟨A7, c7, h7, hle7, hcm7, hr7⟩ := show SlV encSeen 5 w2 (x 7) (setS t a) from hd 7 (by kernel_rfl)
            simp only [mkF, h4, h7] at hK ⊢
            go_wp2_with (go_at_call 10; refine (Same_yes A4 A7 c4 c7 _ _ w2 hr4 hr7 (setS_last t a a rfl)).mono ?_; rintro e w3 ⟨rfl, hb3⟩)
            exact hK _ _ rfl hb3
          · intro x w2 hb hd K hK
            have h8 : x 8 = _ := hd 8 (by kernel_rfl)
            simp only [mkF, h8] at hK ⊢
            go_wp2
            exact hK _ _ rfl (Below.refl _ _)
        · intro z w5 hb hx
          have h9 : z 9 = _ := hx 9 (by decide)
          simp only [mkF, h9]
          have HR7 := Lib.hid (HR7.out.below hb)
          have HR8 := Lib.hid (HR8.out.below hb)
          have HB5 := Lib.hid (HB4.out.trans (hb.mono HB4.out.size))
          have HT5 := Lib.hid (HT.out.below HB5.out)
          clear hb hx h9
          have p0 := keepC HB5.out PA0.out; have q0 := keepC HB5.out PB0.out; have p1 := keepC HB5.out PA1.out; have q1 := keepC HB5.out PB1.out; have p2 := keepC HB5.out PA2.out; have q2 := keepC HB5.out PB2.out; have p3 := keepC HB5.out PA3.out; have q3 := keepC HB5.out PB3.out; have p4 := keepC HB5.out PA4.out; have q4 := keepC HB5.out PB4.out; have p5 := keepC HB5.out PA5.out; have q5 := keepC HB5.out PB5.out
          by_cases hc : a.contact = b.contact
          · have hc1 : (a.contact.toList == b.contact.toList) = true := by rw [str_beq]; exact decide_eq_true hc
            have HC := Lib.hid hc
            clear hc
            go_wp2_with (first | (go_at_call 9; (with_reducible refine (Set_sl A n t b w5 HT5.out HN.out (by have := HLN.out; omega) rfl).mono ?_); rintro e w6 ⟨A6, c6, rfl, hle6, hr6, hb6⟩) | (go_at_call 10; (with_reducible refine (Same_yes A7 A6 c7 c6 _ _ w6 (HR7.out.below hb6) hr6 (setS_last t a b HC.out)).mono ?_); rintro e w7 ⟨rfl, hb7⟩; have HB7 := Lib.hid (HB5.out.trans ((hb6.trans (hb7.mono hb6.size)).mono HB5.out.size)); have HR8 := Lib.hid (HR8.out.below (hb6.trans (hb7.mono hb6.size))); have p0 := keepC HB7.out PA0.out; have q0 := keepC HB7.out PB0.out; have p1 := keepC HB7.out PA1.out; have q1 := keepC HB7.out PB1.out; have p2 := keepC HB7.out PA2.out; have q2 := keepC HB7.out PB2.out; have p3 := keepC HB7.out PA3.out; have q3 := keepC HB7.out PB3.out; have p4 := keepC HB7.out PA4.out; have q4 := keepC HB7.out PB4.out; have p5 := keepC HB7.out PA5.out; have q5 := keepC HB7.out PB5.out) | (go_at_call 9; (with_reducible refine (Set_sl A n t a w7 (HT.out.below HB7.out) HN.out (by have := HLN.out; omega) rfl).mono ?_); rintro e w8 ⟨A9, c9, rfl, hle9, hr9, hb8⟩) | (go_at_call 10; (with_reducible refine (Same_yes A8 A9 c8 c9 _ _ w8 (HR8.out.below hb8) hr9 (setS_last t b a HC.out.symm)).mono ?_); rintro e w9 ⟨rfl, hb9⟩) | (go_at_call 8; refine (law05_live _).mono ?_; rintro e w10 ⟨rfl, hb10⟩))
            go_ret
            exact ⟨rfl, HB1.out.trans ((HB7.out.trans ((hb8.trans ((hb9.trans (hb10.mono hb9.size)).mono hb8.size)).mono HB7.out.size)).mono HB1.out.size)⟩
          · have hc1 : (a.contact.toList == b.contact.toList) = false := by rw [str_beq]; exact decide_eq_false hc
            have HC := Lib.hid hc
            clear hc
            go_wp2_with (first | (go_at_call 10; (with_reducible refine (Same_yes A7 A8 c7 c8 _ _ w5 HR7.out HR8.out (setS_comm t a b h2 HC.out)).mono ?_); rintro e w6 ⟨rfl, hb6⟩) | (go_at_call 8; refine (law05_live _).mono ?_; rintro e w10 ⟨rfl, hb10⟩))
            go_ret
            exact ⟨rfl, HB1.out.trans ((HB5.out.trans ((hb6.trans (hb10.mono hb6.size)).mono HB5.out.size)).mono HB1.out.size)⟩
  · rcases guard_not hg with h1 | ⟨h1, h2⟩ | ⟨h1, h2, h3⟩ | ⟨h1, h2, h3, h4⟩ | ⟨h1, h2, h3, h4, h5⟩ | ⟨h1, h2, h3, h4, h5, h6⟩
    all_goals
      go_enter Try.func3, Try.ntmps3
      go_wp2_with (first | (go_at_call 6; rw [HW1.out]; refine (HF.out W1 (Below.refl _ _)).mono ?_; rw [h1]; rintro e w1 ⟨rfl, hb1⟩) | (go_at_call 7; refine (HM.out w1 hb1).mono ?_; rw [h2]; rintro e w2 ⟨rfl, hb2⟩; have HB2 := Lib.hid (hb1.trans (hb2.mono hb1.size)); have p0 := keepC HB2.out PA0.out; have q0 := keepC HB2.out PB0.out; have p5 := keepC HB2.out PA5.out; have q5 := keepC HB2.out PB5.out) | (go_at_call 8; refine (law05_live _).mono ?_; rintro e w9 ⟨rfl, hb9⟩))
      go_ret
      first
        | exact ⟨rfl, HB1.out.trans ((HB2.out.trans (hb9.mono HB2.out.size)).mono HB1.out.size)⟩
        | exact ⟨rfl, HB1.out.trans ((hb1.trans (hb9.mono hb1.size)).mono HB1.out.size)⟩
end Go.Proofs.Ytialmfbjkegjoaa
