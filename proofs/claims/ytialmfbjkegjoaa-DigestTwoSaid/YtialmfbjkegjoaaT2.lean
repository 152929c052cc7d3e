/- Contract of digest.Changes. -/
import Derived.Test.YtialmfbjkegjoaaT
set_option linter.unusedVariables false
set_option linter.unusedSimpArgs false
namespace Go.Proofs.Ytialmfbjkegjoaa
open Go.RowKit

attribute [local go_sem high] eqChange
set_option maxHeartbeats 4000000 in
set_option maxRecDepth 100000 in
theorem digest_Changes (A B : Option Addr) (ca cb : Nat) (a b : List PSeen) (w : World) (ha : RdS encSeen 5 w A a) (hb : RdS encSeen 5 w B b) (hla : a.length ≤ 100000) (hlb : b.length ≤ 100000) :
    Calls Try.prog 30 #[.slice A a.length ca, .slice B b.length cb] w fun e w' => ∃ v, e = .returned v ∧ Own encChange 6 26 w' w.heap.size v (changesL a b) ∧ Below w.heap.size w w' := by
  have HA := Lib.hid ha
  have HB := Lib.hid hb
  clear ha hb
  have hML := mergeL_len (a.map (·.contact)) (b.map (·.contact))
  rw [List.length_map, List.length_map] at hML
  unfold changesL
  obtain ⟨L, hL⟩ : ∃ L, L = mergeL (a.map (·.contact)) (b.map (·.contact)) := ⟨_, rfl⟩
  rw [← hL] at hML ⊢
  have HL := Lib.hid hL.symm
  clear hL
  go_enter Try.func30, Try.ntmps30
  go_wp2_with (first | (go_at_call 71; (with_reducible refine (contacts_sl A ca a w HA.out hla).mono ?_); rintro e w1 ⟨A1, c1, rfl, hr1, hb1⟩; have HR1 := Lib.hid hr1; have HB1 := Lib.hid hb1; clear hb1 hr1) | (go_at_call 71; (with_reducible refine (contacts_sl B cb b w1 (HB.out.below HB1.out) hlb).mono ?_); rintro e w2 ⟨A2, c2, rfl, hr2, hb2⟩; have HR2 := Lib.hid hr2; have HB2 := Lib.hid hb2; clear hb2 hr2) | (go_at_call 56; refine (Merge_sl A1 A2 a.length b.length c1 c2 (a.map (·.contact)) (b.map (·.contact)) w2 (by simp) (by simp) (HR1.out.below HB2.out) HR2.out (by simp; omega)).mono ?_; rw [HL.out]; rintro e w3 ⟨A3, c3, rfl, hr3, hb3⟩; have HR3 := Lib.hid hr3; have HB3 := Lib.hid (HB1.out.trans ((HB2.out.trans (hb3.mono HB2.out.size)).mono HB1.out.size)); clear hb3 hr3))
  trace "head done"
  have HAk : Hid (∀ W, Below w3.heap.size w3 W → RdS encSeen 5 W A a) := fun W h => (HA.out.below HB3.out).below h
  have HBk : Hid (∀ W, Below w3.heap.size w3 W → RdS encSeen 5 W B b) := fun W h => (HB.out.below HB3.out).below h
  clear HA HB HR1 HR2 HB1 HB2 HL
  go_loopw [5, 16] (fun vo i wr => ∃ (k : Nat) (v : Value), k ≤ L.length ∧ i = .int .i64 k ∧ v = vo ∧ Hid (Own encChange 6 26 wr w3.heap.size v ((L.take k).filterMap (chg a b))) ∧ Hid (Below w3.heap.size w3 wr)) (fun _ i _ => L.length - (intOf i).toNat)
  case atStart => exact ⟨0, _, Nat.zero_le _, rfl, rfl, Own.nil _ _ _ _ _, Below.refl _ _⟩
  case round =>
    obtain ⟨k, v, hk, rfl, rfl, HO, HB⟩ := hrel
    have hsz := HB.out.size
    by_cases hlt : k < L.length
    · obtain ⟨b0, off, rfl, h0⟩ := (HR3.out.below HB.out).str k hlt
      obtain ⟨va0, va1, va2, va3, oa, hga⟩ : ∃ v0 v1 v2 v3 o, getT a L[k] = (⟨v0, v1, v2, v3⟩, o) := ⟨_, _, _, _, _, rfl⟩
      obtain ⟨vb0, vb1, vb2, vb3, ob, hgb⟩ : ∃ v0 v1 v2 v3 o, getT b L[k] = (⟨v0, v1, v2, v3⟩, o) := ⟨_, _, _, _, _, rfl⟩
      have hch : (L.take (k + 1)).filterMap (chg a b) = (L.take k).filterMap (chg a b) ++ (chg a b L[k]).toList := fm_next _ _ _ hlt
      have htb : tellC b L[k] = ⟨L[k], ob, ⟨vb0, vb1, vb2, vb3⟩⟩ := by unfold tellC; rw [hgb]
      have hta : tellC a L[k] = ⟨L[k], oa, ⟨va0, va1, va2, va3⟩⟩ := by unfold tellC; rw [hga]
      have hcv : chg a b L[k] = if eqChangeB ⟨L[k], oa, ⟨va0, va1, va2, va3⟩⟩ ⟨L[k], ob, ⟨vb0, vb1, vb2, vb3⟩⟩ = true then none else some ⟨L[k], ob, ⟨vb0, vb1, vb2, vb3⟩⟩ := by
        unfold chg
        rw [hta, htb]
      rw [hcv] at hch
      obtain ⟨c, hc⟩ : ∃ c, c = L[k] := ⟨_, rfl⟩
      rw [← hc] at h0 hga hgb hch
      have hacc := fm_len (chg a b) L k
      obtain ⟨acc, hacc2⟩ : ∃ acc, acc = (L.take k).filterMap (chg a b) := ⟨_, rfl⟩
      have HO1 := HO.out
      rw [← hacc2] at HO1 hch hacc
      have HC := Lib.hid hch
      have HGA := Lib.hid hga
      have HGB := Lib.hid hgb
      have HOa : Hid (∀ W, Below wr.heap.size wr W → Own encChange 6 26 W w3.heap.size v acc) := fun W h => HO1.below h
      have HN : Hid (Own encChange 6 26 wr w3.heap.size v acc) := HO1
      clear hta htb hcv hga hgb hc hacc2 hch HO1 HO
      have hLn : (acc.length + 1) * 64 ≤ 140737488355328 := by omega
      cases hq : eqChangeB ⟨c, oa, ⟨va0, va1, va2, va3⟩⟩ ⟨c, ob, ⟨vb0, vb1, vb2, vb3⟩⟩
      all_goals
        rw [hq] at HC
        go_upto_region 9 with (first | (go_at_call 29; (with_reducible refine (digest_Get2 A ca a c _ (HAk.out _ ((HB.out.alloc hsz _).alloc (by simp; omega) _)) HGA.out).mono ?_); rintro e w4 ⟨rfl, hb4⟩; obtain ⟨hc4a, hc4b, hb4c⟩ := cells_two wr [.string c, .bool false, .int .i64 0, .int .i64 0, .int .i64 0, .string ⟨#[]⟩] [.string c, .bool false, .int .i64 0, .int .i64 0, .int .i64 0, .string ⟨#[]⟩] 26 26; have HC4a := Lib.hid (hc4a.below hb4); have HC4b := Lib.hid (hc4b.below hb4); have HB4 := Lib.hid (hb4c.trans (hb4.mono (by simp; omega))); clear hc4a hc4b hb4c hb4; have k1 := HC4a.out.1 1 _ rfl; have f1 := HC4a.out.2.1 1; have k2 := HC4a.out.1 2 _ rfl; have f2 := HC4a.out.2.1 2; have k3 := HC4a.out.1 3 _ rfl; have f3 := HC4a.out.2.1 3; have k4 := HC4a.out.1 4 _ rfl; have f4 := HC4a.out.2.1 4; have k5 := HC4a.out.1 5 _ rfl; have f5 := HC4a.out.2.1 5) | (go_at_call 29; obtain ⟨W5, hW5⟩ : ∃ W5, W5 = set5 w4 wr.heap.size (.bool oa) (.int .i64 va0) (.int .i64 va1) (.int .i64 va2) (.string va3) := ⟨_, rfl⟩; have HC5a := Lib.hid (set5_same HC4a.out (.bool oa) (.int .i64 va0) (.int .i64 va1) (.int .i64 va2) (.string va3)); have HC5b := Lib.hid (set5_other HC4b.out (b' := wr.heap.size) (by omega) (.bool oa) (.int .i64 va0) (.int .i64 va1) (.int .i64 va2) (.string va3)); have HB5 := Lib.hid (set5_below HB4.out (Nat.le_refl _) (.bool oa) (.int .i64 va0) (.int .i64 va1) (.int .i64 va2) (.string va3)); have hs5 := set5_size w4 wr.heap.size (.bool oa) (.int .i64 va0) (.int .i64 va1) (.int .i64 va2) (.string va3); rw [← hW5] at HC5a HC5b HB5 hs5; have HS5 := Lib.hid hs5; clear hs5 k1 k2 k3 k4 k5 f1 f2 f3 f4 f5; unfold set5 at hW5; rw [← hW5]; clear hW5; (with_reducible refine (digest_Get2 B cb b c W5 (HBk.out _ (HB.out.trans (HB5.out.mono hsz))) HGB.out).mono ?_); rintro e w6 ⟨rfl, hb6⟩; have HC6a := Lib.hid (HC5a.out.below hb6); have HC6b := Lib.hid (HC5b.out.below hb6); have HB6 := Lib.hid (HB5.out.trans (hb6.mono (HB5.out.size))); clear hb6; have k1 := HC6b.out.1 1 _ rfl; have f1 := HC6b.out.2.1 1; have k2 := HC6b.out.1 2 _ rfl; have f2 := HC6b.out.2.1 2; have k3 := HC6b.out.1 3 _ rfl; have f3 := HC6b.out.2.1 3; have k4 := HC6b.out.1 4 _ rfl; have f4 := HC6b.out.2.1 4; have k5 := HC6b.out.1 5 _ rfl; have f5 := HC6b.out.2.1 5; have q0 := HC6a.out.1 0 _ rfl; have q1 := HC6a.out.1 1 _ rfl; have q2 := HC6a.out.1 2 _ rfl; have q3 := HC6a.out.1 3 _ rfl; have q4 := HC6a.out.1 4 _ rfl; have q5 := HC6a.out.1 5 _ rfl; have q6 := HC6b.out.1 0 _ rfl))
        obtain ⟨W7, hW7⟩ : ∃ W7, W7 = set5 w6 (wr.heap.size + 1) (.bool ob) (.int .i64 vb0) (.int .i64 vb1) (.int .i64 vb2) (.string vb3) := ⟨_, rfl⟩
        have HC7b := Lib.hid (set5_same HC6b.out (.bool ob) (.int .i64 vb0) (.int .i64 vb1) (.int .i64 vb2) (.string vb3))
        have HC7a := Lib.hid (set5_other HC6a.out (b' := wr.heap.size + 1) (by omega) (.bool ob) (.int .i64 vb0) (.int .i64 vb1) (.int .i64 vb2) (.string vb3))
        have HB7 := Lib.hid (set5_below HB6.out (b := wr.heap.size + 1) (by omega) (.bool ob) (.int .i64 vb0) (.int .i64 vb1) (.int .i64 vb2) (.string vb3))
        rw [← hW7] at HC7a HC7b HB7
        clear k1 k2 k3 k4 k5 f1 f2 f3 f4 f5 q0 q1 q2 q3 q4 q5 q6
        unfold set5 at hW7
        rw [← hW7]
        clear hW7
        have a0 := HC7a.out.1 0 _ rfl; have a1 := HC7a.out.1 1 _ rfl; have a2 := HC7a.out.1 2 _ rfl; have a3 := HC7a.out.1 3 _ rfl; have a4 := HC7a.out.1 4 _ rfl; have a5 := HC7a.out.1 5 _ rfl
        have b0 := HC7b.out.1 0 _ rfl; have b1 := HC7b.out.1 1 _ rfl; have b2 := HC7b.out.1 2 _ rfl; have b3 := HC7b.out.1 3 _ rfl; have b4 := HC7b.out.1 4 _ rfl; have b5 := HC7b.out.1 5 _ rfl
        have hs7 := HB7.out.size
        have hLn2 : (acc.length + [(⟨c, ob, ⟨vb0, vb1, vb2, vb3⟩⟩ : PChange)].length) * 64 ≤ 140737488355328 := hLn
        have HLN := Lib.hid hLn2
        clear hLn2
        go_wp2_with (at_builtin; refine wp_app encChangeK rfl _ _ 71 26 (.agg #[.string ⟨#[]⟩, .bool false, .int .i64 0, .int .i64 0, .int .i64 0, .string ⟨#[]⟩]) 64 rfl Try.underlying71 infoChange rfl _ _ [⟨c, ob, ⟨vb0, vb1, vb2, vb3⟩⟩] _ _ _ rfl rfl rfl (HOa.out _ (HB7.out.alloc hs7 _)) (oneRow encChangeK W7 _ rfl ⟨c, ob, ⟨vb0, vb1, vb2, vb3⟩⟩ _) HLN.out (by omega) (by simp; omega) ?_; intro v1 w8 ho8 hg8 hat8; have HO8 := Lib.hid ho8; have HG8 := Lib.hid (below_grown HB.out ((grown_below (HB7.out.alloc hs7 _) _).trans hg8) hsz (fun j hj => (HN.out.base_le j hj).1)); clear ho8 hg8 hat8)
        first
          | exact ⟨⟨k + 1, v1, by omega, by go_num, rfl, by rw [HC.out]; exact HO8.out, HG8.out⟩, by simp [intOf]; omega⟩
          | exact ⟨⟨k + 1, v, by omega, by go_num, rfl, by rw [HC.out]; show Own _ _ _ _ _ _ _; simpa using HOa.out _ HB7.out, HB.out.trans (HB7.out.mono hsz)⟩, by simp [intOf]; omega⟩
    · go_wp2
      go_ret
      refine ⟨v, rfl, ?_, HB3.out.trans (HB.out.mono HB3.out.size)⟩
      have := HO.out
      rw [List.take_of_length_le (by omega)] at this
      exact this.base_mono HB3.out.size
end Go.Proofs.Ytialmfbjkegjoaa
