/- Contract of digest.Take. -/
import Derived.Test.YtialmfbjkegjoaaN2
set_option linter.unusedVariables false
set_option linter.unusedSimpArgs false
namespace Go.Proofs.Ytialmfbjkegjoaa
open Go.RowKit

theorem takeI_in {s : ByteArray} {k : Nat} (hk : k ≤ s.size) (h : (takeI s k).2.2 = 0) : ∃ j : Nat, (takeI s k).2.1 = j ∧ j ≤ s.size := by
  unfold takeI at h ⊢
  split at h
  · rename_i he; exact absurd h he
  · rename_i he
    rw [if_neg he]
    split at h
    · rename_i h2
      rw [if_pos h2]
      obtain ⟨j, hj, _, hjs⟩ := takeV_in hk h
      exact ⟨j, hj, hjs⟩
    · cases h
theorem takeVal_in {s : ByteArray} {k : Nat} (hk : k ≤ s.size) (h : (takeVal s k).2.2 = 0) : ∃ j : Nat, (takeVal s k).2.1 = j ∧ j ≤ s.size := by
  unfold takeVal at h ⊢
  split at h
  · cases h
  · rename_i h2
    rw [if_neg h2]
    rcases hG : getV s (k + 2 : Nat) with ⟨n, j, e⟩
    rw [hG] at h
    dsimp only at h ⊢
    split at h
    · rename_i he; exact absurd h he
    · rename_i he
      rw [if_neg he]
      obtain ⟨_, j', hj, _, hjs⟩ := getV_ok (s := s) (k := k + 2) (by omega) (by rw [hG]; simpa using he)
      rw [hG] at hj
      dsimp only at hj
      subst hj
      rcases hT : takeV s j' 32 with ⟨st, to, e⟩
      rw [hT] at h
      dsimp only at h ⊢
      split at h
      · rename_i he; exact absurd h he
      · rename_i he
        rw [if_neg he]
        obtain ⟨j2, hj2, _, hjs2⟩ := takeV_in hjs (by rw [hT]; simpa using he)
        rw [hT] at hj2
        dsimp only at hj2
        split at h
        · rename_i hv
          rw [if_pos hv]
          exact ⟨j2, hj2, hjs2⟩
        · cases h
/-- n rows from a place on, behind those that stand. -/
def takeRows (s : ByteArray) : Nat → Nat → List PSeen → List PSeen × Int × Int
  | 0, k, acc => (acc, k, 0)
  | n + 1, k, acc => if (takeI s k).2.2 ≠ 0 then ([], 0, (takeI s k).2.2) else
    if (takeVal s (takeI s k).2.1.toNat).2.2 ≠ 0 then ([], 0, (takeVal s (takeI s k).2.1.toNat).2.2) else
    takeRows s n (takeVal s (takeI s k).2.1.toNat).2.1.toNat (acc ++ [⟨(takeI s k).1, (takeVal s (takeI s k).2.1.toNat).1⟩])
def takeT (s : ByteArray) (k : Nat) : List PSeen × Int × Int :=
  if (getV s k).2.2 ≠ 0 then ([], 0, (getV s k).2.2) else if 32 < (getV s k).1 then ([], 0, 3) else
  if (takeRows s (getV s k).1 (getV s k).2.1.toNat []).2.2 ≠ 0 then ([], 0, (takeRows s (getV s k).1 (getV s k).2.1.toNat []).2.2) else
  if mayT less3 (takeRows s (getV s k).1 (getV s k).2.1.toNat []).1 then takeRows s (getV s k).1 (getV s k).2.1.toNat [] else ([], 0, 3)
theorem takeI_size {s : ByteArray} {k : Int} : (takeI s k).1.size ≤ s.size := by
  unfold takeI
  split
  · exact Nat.zero_le _
  · split
    · exact takeV_size
    · exact Nat.zero_le _
theorem takeVal_size {s : ByteArray} {k : Nat} : (takeVal s k).1.status.size ≤ s.size := by
  unfold takeVal
  split
  · exact Nat.zero_le _
  · rcases hG : getV s (k + 2 : Nat) with ⟨n, j, e⟩
    dsimp only
    split
    · exact Nat.zero_le _
    · have hz := takeV_size (s := s) (k := j) (m := 32)
      rcases hT : takeV s j 32 with ⟨st, to, e⟩
      rw [hT] at hz
      dsimp only at hz ⊢
      split
      · exact Nat.zero_le _
      · split
        · exact hz
        · exact Nat.zero_le _
theorem SlV.nil {α : Type} (enc : α → List Value) (k : Nat) (w : World) : SlV enc k w (.slice none 0 0) [] := ⟨none, 0, rfl, Nat.zero_le _, by omega, RdS.nil _ _ _ _⟩
def RT (w : World) (r : List PSeen × Int × Int) (e : Ending) (w' : World) : Prop := ∃ v, e = .returned (.tuple #[v, .int .i64 r.2.1, .int .i64 r.2.2]) ∧ SlV encSeen 5 w' v r.1 ∧ Below w.heap.size w w'
theorem sc_same {w : World} {a : Addr} {v u : Value} (h : w.cell? a = some u) : (w.setCell a v).cell? a = some v := World.cell?_setCell_same w a v h
theorem sc_other {w : World} {a b : Addr} {v : Value} (h : a ≠ b) : (w.setCell a v).cell? b = w.cell? b := World.cell?_setCell_other w a b v h
/-- A block of five cells of the call's own. -/
def Five (w : World) (b : Nat) (c0 c1 c2 c3 c4 : Value) : Prop :=
  w.cell? ⟨b, 0, none⟩ = some c0 ∧ w.cell? ⟨b, 1, none⟩ = some c1 ∧ w.cell? ⟨b, 2, none⟩ = some c2 ∧ w.cell? ⟨b, 3, none⟩ = some c3 ∧ w.cell? ⟨b, 4, none⟩ = some c4 ∧ ∀ i, w.frozen? ⟨b, i, none⟩ = false
theorem Five.fresh (w : World) (c0 c1 c2 c3 c4 : Value) (T : TypeId) : Five (w.alloc (.cells #[c0, c1, c2, c3, c4] T)) w.heap.size c0 c1 c2 c3 c4 := by
  refine ⟨by simp, by simp, by simp, by simp, by simp, fun i => ?_⟩
  rw [frozen?_alloc_cells]
  simp [World.frozen?]
theorem Five.below {w w' : World} {b : Nat} {c0 c1 c2 c3 c4 : Value} (h : Five w b c0 c1 c2 c3 c4) (hb : Below w.heap.size w w') : Five w' b c0 c1 c2 c3 c4 := by
  obtain ⟨h0, h1, h2, h3, h4, hf⟩ := h
  have hlt := World.block_lt_of_cell? w _ h0
  have hlt : b < w.heap.size := hlt
  exact ⟨(hb.cell (p := ⟨b, 0, none⟩) hlt).trans h0, (hb.cell (p := ⟨b, 1, none⟩) hlt).trans h1, (hb.cell (p := ⟨b, 2, none⟩) hlt).trans h2, (hb.cell (p := ⟨b, 3, none⟩) hlt).trans h3, (hb.cell (p := ⟨b, 4, none⟩) hlt).trans h4, fun i => (hb.frozen (p := ⟨b, i, none⟩) hlt).trans (hf i)⟩
theorem Five.set0 {w : World} {b : Nat} {c0 c1 c2 c3 c4 : Value} (h : Five w b c0 c1 c2 c3 c4) (u : Value) : Five (w.setCell ⟨b, 0, none⟩ u) b u c1 c2 c3 c4 := by
  obtain ⟨h0, h1, h2, h3, h4, hf⟩ := h
  exact ⟨sc_same h0, (sc_other (by simp)).trans h1, (sc_other (by simp)).trans h2, (sc_other (by simp)).trans h3, (sc_other (by simp)).trans h4, fun i => by rw [World.frozen?_setCell, hf]⟩
theorem Five.set14 {w : World} {b : Nat} {c0 c1 c2 c3 c4 : Value} (h : Five w b c0 c1 c2 c3 c4) (u1 u2 u3 u4 : Value) : Five ((((w.setCell ⟨b, 1, none⟩ u1).setCell ⟨b, 2, none⟩ u2).setCell ⟨b, 3, none⟩ u3).setCell ⟨b, 4, none⟩ u4) b c0 u1 u2 u3 u4 := by
  obtain ⟨h0, h1, h2, h3, h4, hf⟩ := h
  refine ⟨?_, ?_, ?_, ?_, ?_, fun i => by simp only [World.frozen?_setCell, hf]⟩
  · rw [sc_other (by simp), sc_other (by simp), sc_other (by simp), sc_other (by simp), h0]
  · rw [sc_other (by simp), sc_other (by simp), sc_other (by simp), sc_same h1]
  · rw [sc_other (by simp), sc_other (by simp), sc_same (u := c2) (by rw [sc_other (by simp), h2])]
  · rw [sc_other (by simp), sc_same (u := c3) (by rw [sc_other (by simp), sc_other (by simp), h3])]
  · rw [sc_same (u := c4) (by rw [sc_other (by simp), sc_other (by simp), sc_other (by simp), h4])]
theorem okSeen_app {acc : List PSeen} {x : PSeen} (h : ∀ x ∈ acc, okSeen x) (h1 : okStr x.contact) (h2 : okStr x.value.status) : ∀ y ∈ acc ++ [x], okSeen y := by
  intro y hy
  rcases List.mem_append.1 hy with hy | hy
  · exact h y hy
  · simp only [List.mem_singleton] at hy
    subst hy
    exact ⟨h1, h2⟩
theorem takeRows_step (s : ByteArray) (n k : Nat) (acc : List PSeen) : takeRows s (n + 1) k acc = if (takeI s k).2.2 ≠ 0 then ([], 0, (takeI s k).2.2) else
    if (takeVal s (takeI s k).2.1.toNat).2.2 ≠ 0 then ([], 0, (takeVal s (takeI s k).2.1.toNat).2.2) else
    takeRows s n (takeVal s (takeI s k).2.1.toNat).2.1.toNat (acc ++ [⟨(takeI s k).1, (takeVal s (takeI s k).2.1.toNat).1⟩]) := rfl
set_option maxHeartbeats 1000000 in
set_option maxRecDepth 100000 in
theorem digest_Take (s : ByteArray) (k : Nat) (w : World) (hk : k ≤ s.size) (hs : s.size ≤ 9223372036854775000) :
    Calls Try.prog 28 #[.string s, .int .i64 k] w (RT w (takeT s k)) := by
  obtain ⟨r, hr⟩ : ∃ r, takeT s k = r := ⟨_, rfl⟩
  rw [hr]
  unfold takeT at hr
  have hG := fun w => varint_Get_at s k w hk hs
  have hok := @getV_ok s k hk
  generalize getV s k = g at hG hr hok
  obtain ⟨n, j, e⟩ := g
  dsimp only at hG hr hok
  have HG := Lib.hid hG
  clear hG
  by_cases he : e = 0
  · subst he
    obtain ⟨h64, j', hj, hkj, hjs⟩ := hok rfl
    subst hj
    clear hok hkj
    have h64' : n < 18446744073709551616 := h64
    clear h64
    rw [if_neg (by simp)] at hr
    by_cases hn : 32 < n
    · rw [if_pos hn] at hr
      subst hr
      go_enter Try.func28, Try.ntmps28
      go_wp2_with (go_at_call 68; refine (HG.out _).mono ?_; rintro e w1 ⟨rfl, rfl⟩)
      go_ret3
      exact ⟨_, rfl, SlV.nil _ _ _, Below.refl _ _⟩
    · rw [if_neg hn, Int.toNat_natCast] at hr
      generalize hR : takeRows s n j' [] = R at hr
      have HR := Lib.hid hR
      have Hr := Lib.hid hr
      clear hR hr
      go_enter Try.func28, Try.ntmps28
      go_wp2_with (go_at_call 68; refine (HG.out _).mono ?_; rintro e w1 ⟨rfl, rfl⟩)
      go_loopw [8, 10, 27] (fun vt vo i wr => ∃ (m to : Nat) (acc : List PSeen) (v : Value), m ≤ n ∧ i = .int .u64 m ∧ vt = .int .i64 to ∧ v = vo ∧ to ≤ s.size ∧ Hid (takeRows s (n - m) to acc = R) ∧ Hid (acc.length = m) ∧ Hid (∀ x ∈ acc, okSeen x) ∧ Hid (Own encSeen 5 62 wr w.heap.size v acc) ∧ Hid (Below w.heap.size w wr)) (fun _ _ i _ => n - (intOf i).toNat)
      case atStart => exact ⟨0, j', [], _, Nat.zero_le _, rfl, rfl, rfl, hjs, HR.out, rfl, by simp [Hid], Own.nil _ _ _ _ _, Below.refl _ _⟩
      case round =>
        obtain ⟨m, to, acc, v, hm, rfl, rfl, rfl, hto, HT, HL, HK, HO, HB⟩ := hrel
        have hsz := HB.out.size
        by_cases hlt : m < n
        · have hI := fun w => ident_Take s to w hto hs
          have hin := @takeI_in s to hto
          have HT2 : Hid (takeRows s ((n - (m + 1)) + 1) to acc = R) := by rw [show n - (m + 1) + 1 = n - m by omega]; exact HT.out
          have hq := takeRows_step s (n - (m + 1)) to acc
          rw [HT2.out] at hq
          have hzI := takeI_size (s := s) (k := to)
          generalize takeI s to = gi at hI hin hq hzI
          obtain ⟨nm, ji, ei⟩ := gi
          dsimp only at hI hin hq hzI
          by_cases hei : ei = 0
          · subst hei
            obtain ⟨j2, hj2, hj2s⟩ := hin rfl
            subst hj2
            rw [if_neg (by simp), Int.toNat_natCast] at hq
            have hV := fun w => value_Take s j2 w hj2s hs
            have hin2 := @takeVal_in s j2 hj2s
            have hzV := takeVal_size (s := s) (k := j2)
            have HI := Lib.hid hI
            clear hI hin
            generalize takeVal s j2 = gv at hV hin2 hq hzV
            obtain ⟨⟨v1, v2, v3, v4⟩, jv, ev⟩ := gv
            dsimp only at hV hin2 hq hzV
            have hV' : ∀ w, Calls Try.prog 70 #[.string s, .int .i64 j2] w fun e w' => e = .returned (.tuple #[.agg #[.int .i64 v1, .int .i64 v2, .int .i64 v3, .string v4], .int .i64 jv, .int .i64 ev]) ∧ Below w.heap.size w w' := hV
            have HV := Lib.hid hV'
            clear hV hV'
            by_cases hev : ev = 0
            · subst hev
              rw [if_neg (by simp)] at hq
              obtain ⟨j3, hj3, hj3s⟩ := hin2 rfl
              subst hj3
              rw [Int.toNat_natCast] at hq
              have HQ := Lib.hid hq
              clear hq
              have HXX : Hid (∀ (W : World) (m : Nat), m = W.heap.size → RdS encSeen 5 (W.alloc (.cells #[.string nm, .int .i64 v1, .int .i64 v2, .int .i64 v3, .string v4] 62)) (some ⟨m, 0, none⟩) [(⟨nm, ⟨v1, v2, v3, v4⟩⟩ : PSeen)]) := fun W m hm => by subst hm; exact oneSeen (by show (W.heap.push _)[W.heap.size]? = _; rw [Array.getElem?_push_size]; rfl)
              have HLN : Hid ((acc.length + [(⟨nm, ⟨v1, v2, v3, v4⟩⟩ : PSeen)].length) * 56 ≤ 140737488355328) := by have := HL.out; show _ ≤ _; simp; omega
              go_wp2_with (first | (go_at_call 69; refine (HI.out _).mono ?_; rintro e w5 ⟨rfl, hb5⟩; have HF5 := Lib.hid ((Five.fresh wr (.string ⟨#[]⟩) (.int .i64 0) (.int .i64 0) (.int .i64 0) (.string ⟨#[]⟩) _).below hb5); obtain ⟨k0, k1, k2, k3, k4, kf⟩ := HF5.out; have f0 := kf 0; have HB5 := Lib.hid (((Below.refl wr.heap.size wr).alloc (Nat.le_refl _) _).trans (hb5.mono (by simp))); clear hb5 kf) | (go_at_call 70; refine (HV.out _).mono ?_; rintro e w6 ⟨rfl, hb6⟩; have HF6 := Lib.hid ((HF5.out.set0 (.string nm)).below hb6); have HF7 := Lib.hid (HF6.out.set14 (.int .i64 v1) (.int .i64 v2) (.int .i64 v3) (.string v4)); obtain ⟨k0, k1, k2, k3, k4, kf⟩ := HF6.out; obtain ⟨l0, l1, l2, l3, l4, lf⟩ := HF7.out; have f0 := kf 0; have f1 := kf 1; have f2 := kf 2; have f3 := kf 3; have f4 := kf 4; have HB6 := Lib.hid (hb6.mono (Nat.le_trans HB5.out.size (by simp))); have HB7 := Lib.hid ((((((HB5.out.setCell (p := ⟨wr.heap.size, 0, none⟩) (Nat.le_refl _) (.string nm)).trans HB6.out).setCell (p := ⟨wr.heap.size, 1, none⟩) (Nat.le_refl _) (.int .i64 v1)).setCell (p := ⟨wr.heap.size, 2, none⟩) (Nat.le_refl _) (.int .i64 v2)).setCell (p := ⟨wr.heap.size, 3, none⟩) (Nat.le_refl _) (.int .i64 v3)).setCell (p := ⟨wr.heap.size, 4, none⟩) (Nat.le_refl _) (.string v4)); have HO7 := Lib.hid (HO.out.below HB7.out); have hs7 : wr.heap.size ≤ w6.heap.size := Nat.le_trans (HB5.out.setCell (p := ⟨wr.heap.size, 0, none⟩) (Nat.le_refl _) (.string nm)).size HB6.out.size; clear hb6 kf lf) | (at_builtin; go_loud (refine wp_app encSeenK rfl _ _ 22 62 (.agg #[.string ⟨#[]⟩, .int .i64 0, .int .i64 0, .int .i64 0, .string ⟨#[]⟩]) 56 rfl Try.underlying22 infoSeen rfl _ acc [⟨nm, ⟨v1, v2, v3, v4⟩⟩] _ _ _ rfl rfl rfl (HO7.out.below ((Below.refl _ _).alloc (Nat.le_refl _) _)) (HXX.out _ _ (by simp)) HLN.out (by omega) (by simp; omega) ?_; intro v' w8 ho hg hat; have HO8 := Lib.hid ho; have HG8 := Lib.hid hg; clear ho hg hat)))
              exact ⟨⟨m + 1, j3, acc ++ [(⟨nm, ⟨v1, v2, v3, v4⟩⟩ : PSeen)], v', by omega, by go_num, rfl, rfl, hj3s, HQ.out.symm, by have := HL.out; show _ = _; simp [this], okSeen_app HK.out (by show _ ≤ _; dsimp only; omega) (by show _ ≤ _; dsimp only at hzV ⊢; omega), HO8.out, below_grown (HB.out.trans (HB7.out.mono HB.out.size)) ((World.grownBy_alloc _ _ v.ownBlock).trans HG8.out) (by simp; omega) (fun j hj => (HO.out.base_le j hj).1)⟩, by simp [intOf]; omega⟩
            · rw [if_pos hev] at hq
              have hr := Hr.out
              rw [hq] at hr
              rw [if_pos hev] at hr
              have HR2 := Lib.hid hr
              have HQ := Lib.hid hq
              clear hr hq
              have q0 : (ev != 0) = true := by simp [hev]
              go_wp2_with (first | (go_at_call 69; refine (HI.out _).mono ?_; rintro e w5 ⟨rfl, hb5⟩; have HF5 := Lib.hid ((Five.fresh wr (.string ⟨#[]⟩) (.int .i64 0) (.int .i64 0) (.int .i64 0) (.string ⟨#[]⟩) _).below hb5); obtain ⟨k0, k1, k2, k3, k4, kf⟩ := HF5.out; have f0 := kf 0; have HB5 := Lib.hid (((Below.refl wr.heap.size wr).alloc (Nat.le_refl _) _).trans (hb5.mono (by simp))); clear hb5 kf) | (go_at_call 70; refine (HV.out _).mono ?_; rintro e w6 ⟨rfl, hb6⟩; have HF6 := Lib.hid ((HF5.out.set0 (.string nm)).below hb6); obtain ⟨k0, k1, k2, k3, k4, kf⟩ := HF6.out; have f0 := kf 0; have f1 := kf 1; have f2 := kf 2; have f3 := kf 3; have f4 := kf 4; have HB6 := Lib.hid (hb6.mono (Nat.le_trans HB5.out.size (by simp))); clear hb6 kf))
              go_ret3
              rw [← HR2.out]
              exact ⟨_, rfl, SlV.nil _ _ _, HB.out.trans (((((((HB5.out.setCell (p := ⟨wr.heap.size, 0, none⟩) (Nat.le_refl _) (.string nm)).trans HB6.out).setCell (p := ⟨wr.heap.size, 1, none⟩) (Nat.le_refl _) _).setCell (p := ⟨wr.heap.size, 2, none⟩) (Nat.le_refl _) _).setCell (p := ⟨wr.heap.size, 3, none⟩) (Nat.le_refl _) _).setCell (p := ⟨wr.heap.size, 4, none⟩) (Nat.le_refl _) _).mono HB.out.size)⟩
          · rw [if_pos hei] at hq
            have HI := Lib.hid hI
            clear hI
            have hr := Hr.out
            rw [hq] at hr
            rw [if_pos hei] at hr
            have HR2 := Lib.hid hr
            have HQ := Lib.hid hq
            clear hr hq
            have q0 : (ei != 0) = true := by simp [hei]
            go_wp2_with ((go_at_call 69; refine (HI.out _).mono ?_; rintro e w5 ⟨rfl, hb5⟩; have HF5 := Lib.hid ((Five.fresh wr (.string ⟨#[]⟩) (.int .i64 0) (.int .i64 0) (.int .i64 0) (.string ⟨#[]⟩) _).below hb5); obtain ⟨k0, k1, k2, k3, k4, kf⟩ := HF5.out; have f0 := kf 0; have HB5 := Lib.hid (((Below.refl wr.heap.size wr).alloc (Nat.le_refl _) _).trans (hb5.mono (by simp))); clear hb5 kf))
            go_ret3
            rw [← HR2.out]
            exact ⟨_, rfl, SlV.nil _ _ _, HB.out.trans ((HB5.out.setCell (p := ⟨wr.heap.size, 0, none⟩) (Nat.le_refl _) (.string nm)).mono HB.out.size)⟩
        · obtain rfl : m = n := by omega
          have hT := HT.out
          rw [Nat.sub_self] at hT
          have hR2 : R = (acc, (to : Int), 0) := hT.symm
          have hr := Hr.out
          rw [hR2] at hr
          dsimp only at hr
          rw [if_neg (by simp)] at hr
          obtain ⟨A1, c1, hv, hc1, hc2, hrd⟩ := HO.out.reads encSeenK
          have hM := digest_May A1 c1 acc wr hrd HK.out
          have HSV := Lib.hid (show SlV encSeen 5 wr v acc from ⟨A1, c1, hv, hc1, hc2, hrd⟩)
          rw [← hv] at hM
          clear hc1 hc2 hrd hv hT hR2
          by_cases hmay : mayT less3 acc = true
          · rw [if_pos hmay] at hr
            rw [hmay] at hM
            have HR2 := Lib.hid hr
            clear hr hmay
            go_wp2_with (go_at_call 32; refine hM.mono ?_; rintro e w5 ⟨rfl, hb5⟩; have HB5 := Lib.hid hb5; clear hb5)
            go_ret3
            rw [← HR2.out]
            exact ⟨_, rfl, HSV.out.below HB5.out, HB.out.trans (HB5.out.mono HB.out.size)⟩
          · have hmay : mayT less3 acc = false := by simpa using hmay
            rw [if_neg (by simp [hmay])] at hr
            rw [hmay] at hM
            have HR2 := Lib.hid hr
            clear hr hmay
            go_wp2_with (go_at_call 32; refine hM.mono ?_; rintro e w5 ⟨rfl, hb5⟩; have HB5 := Lib.hid hb5; clear hb5)
            go_ret3
            rw [← HR2.out]
            exact ⟨_, rfl, SlV.nil _ _ _, HB.out.trans (HB5.out.mono HB.out.size)⟩
  · rw [if_pos he] at hr
    subst hr
    have q0 : (e != 0) = true := by simp [he]
    go_enter Try.func28, Try.ntmps28
    go_wp2_with (go_at_call 68; refine (HG.out _).mono ?_; rintro e w1 ⟨rfl, rfl⟩)
    go_ret3
    exact ⟨_, rfl, SlV.nil _ _ _, Below.refl _ _⟩
end Go.Proofs.Ytialmfbjkegjoaa
