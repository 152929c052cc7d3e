/- Contracts of rollcallref04.May and value.May. -/
import Derived.Test.YtialmfbjkegjoaaD
import Derived.Lib.ConvBytes
set_option linter.unusedVariables false
set_option linter.unusedSimpArgs false
namespace Go.Proofs.Ytialmfbjkegjoaa
open Go.RowKit

/-- The first k bytes of a text are such. -/
def byAt (p : Int → Bool) (s : ByteArray) (j : Nat) : Bool := match s.data.toList[j]? with | some c => p c.toNat | none => true
def byTo (p : Int → Bool) (s : ByteArray) (k : Nat) : Bool := (List.range k).all (byAt p s)
theorem byAt_at (p : Int → Bool) (s : ByteArray) (j : Nat) (h : j < s.size) : byAt p s j = p (s[j]'h).toNat := by
  unfold byAt
  rw [List.getElem?_eq_getElem (by simpa using h)]
  rfl
theorem byTo_next {p : Int → Bool} {s : ByteArray} {k : Nat} (hk : k < s.size) (H : byTo p s k = true) (h : p (s[k]'hk).toNat = true) : byTo p s (k + 1) = true := by
  unfold byTo at *
  rw [List.range_succ, List.all_append, H]
  simp [byAt_at p s k hk, h]
theorem byTo_bad {p : Int → Bool} {s : ByteArray} {k : Nat} (hk : k < s.size) (h : p (s[k]'hk).toNat = false) : byTo p s s.size = false := by
  unfold byTo
  rw [List.all_eq_false]
  exact ⟨k, by simpa using hk, by simp [byAt_at p s k hk, h]⟩
def printI (c : Int) : Bool := decide (32 ≤ c) && decide (c ≤ 126)
def vrange (v : PV) : Prop := 1 ≤ v.show_ ∧ v.show_ ≤ 4 ∧ -128 ≤ v.prio ∧ v.prio ≤ 127 ∧ 0 ≤ v.since ∧ v.since ≤ 1099511627776 ∧ v.status.size ≤ 32
instance (v : PV) : Decidable (vrange v) := by unfold vrange; infer_instance
def vokB (v : PV) : Bool := decide (vrange v) && byTo printI v.status v.status.size
theorem vok_out {v : PV} (h : ¬ vrange v) : false = vokB v := by unfold vokB; rw [decide_eq_false h]; rfl
theorem vok_bad {v : PV} {k : Nat} (hk : k < v.status.size) (h : printI (v.status[k]'hk).toNat = false) : false = vokB v := by unfold vokB; rw [byTo_bad hk h]; simp
theorem vok_end {v : PV} {k : Nat} (h : vrange v) (hk : k ≤ v.status.size) (hlt : ¬ k < v.status.size) (H : byTo printI v.status k = true) : true = vokB v := by
  obtain rfl : k = v.status.size := by omega
  unfold vokB
  rw [decide_eq_true h, H]
  rfl
theorem print_true {c : Int} (h : 32 ≤ c ∧ c ≤ 126) : printI c = true := by unfold printI; simpa using h
theorem print_false {c : Int} (h : ¬ (32 ≤ c ∧ c ≤ 126)) : printI c = false := by
  rw [Bool.eq_false_iff]; intro hc; unfold printI at hc; exact h (by simpa using hc)
theorem vrange_cases (v : PV) : vrange v ∨ v.show_ < 1 ∨ (1 ≤ v.show_ ∧ 4 < v.show_) ∨ (1 ≤ v.show_ ∧ v.show_ ≤ 4 ∧ v.prio < -128) ∨ (1 ≤ v.show_ ∧ v.show_ ≤ 4 ∧ -128 ≤ v.prio ∧ 127 < v.prio) ∨ (1 ≤ v.show_ ∧ v.show_ ≤ 4 ∧ -128 ≤ v.prio ∧ v.prio ≤ 127 ∧ v.since < 0) ∨ (1 ≤ v.show_ ∧ v.show_ ≤ 4 ∧ -128 ≤ v.prio ∧ v.prio ≤ 127 ∧ 0 ≤ v.since ∧ 1099511627776 < v.since) ∨ (1 ≤ v.show_ ∧ v.show_ ≤ 4 ∧ -128 ≤ v.prio ∧ v.prio ≤ 127 ∧ 0 ≤ v.since ∧ v.since ≤ 1099511627776 ∧ 32 < v.status.size) := by
  unfold vrange; omega
set_option maxHeartbeats 4000000 in
set_option maxRecDepth 100000 in
theorem ref04_May (a b c : Int) (d : ByteArray) (w : World) (hd : d.size ≤ 9223372036854775807) :
    Calls Try.prog 25 #[.agg #[.int .i64 a, .int .i64 b, .int .i64 c, .string d]] w fun e w' => e = .returned (.bool (vokB ⟨a, b, c, d⟩)) ∧ Below w.heap.size w w' := by
  rcases vrange_cases ⟨a, b, c, d⟩ with h | h | ⟨h1, h⟩ | ⟨h1, h2, h⟩ | ⟨h1, h2, h3, h⟩ | ⟨h1, h2, h3, h4, h⟩ | ⟨h1, h2, h3, h4, h5, h⟩ | ⟨h1, h2, h3, h4, h5, h6, h⟩
  · have HR := Lib.hid h
    obtain ⟨h1, h2, h3, h4, h5, h6, h7⟩ := h
    dsimp only at h1 h2 h3 h4 h5 h6 h7
    go_enter Try.func25, Try.ntmps25
    go_wp2
    go_loop [3] (fun i => ∃ k : Nat, k ≤ d.size ∧ i = .int .i64 k ∧ Hid (byTo printI d k = true)) (fun i => d.size - (intOf i).toNat)
    case atStart => exact ⟨0, Nat.zero_le _, rfl, rfl⟩
    case round =>
      obtain ⟨k, hk, rfl, Hk⟩ := hrel
      by_cases hlt : k < d.size
      · have hn : Hid (printI (d[k]'hlt).toNat = false → false = vokB ⟨a, b, c, d⟩) := vok_bad (v := ⟨a, b, c, d⟩) hlt
        have hy : Hid (printI (d[k]'hlt).toNat = true → byTo printI d (k + 1) = true) := byTo_next hlt Hk.out
        go_wp2
        all_goals first
          | (go_ret; exact ⟨ret_bool (hn.out (print_false (by omega))), (Below.refl _ _).alloc (Nat.le_refl _) _⟩)
          | exact ⟨⟨k + 1, by omega, by go_num, hy.out (print_true (by omega))⟩, by simp [intOf]; omega⟩
      · go_wp2
        go_ret
        exact ⟨ret_bool (vok_end (v := ⟨a, b, c, d⟩) HR.out hk hlt Hk.out), (Below.refl _ _).alloc (Nat.le_refl _) _⟩
  all_goals
    have HR : Hid (¬ vrange ⟨a, b, c, d⟩) := by unfold vrange Hid; dsimp only at *; omega
    dsimp only at *
    go_enter Try.func25, Try.ntmps25
    go_wp2
    go_ret
    exact ⟨ret_bool (vok_out HR.out), (Below.refl _ _).alloc (Nat.le_refl _) _⟩

/-- A slice of bytes that reads as a text. -/
def RdB (w : World) (A : Option Addr) (s : ByteArray) : Prop := ∀ (i : Nat) (h : i < s.size), ∃ b off, A = some ⟨b, off, none⟩ ∧ w.cell? ⟨b, off + i, none⟩ = some (.int .u8 (s[i]'h).toNat)
theorem conv_bytes {P : Program} (src dst e : TypeId) (s : ByteArray) (hs : P.underlying src = some .string) (hd : P.underlying dst = some (.slice e)) (he : P.underlying e = some (.int .u8)) (W : World) :
    ∃ W1 cap, (convert src dst (.string s)).run P W = .ok (.slice (some ⟨W.heap.size, 0, none⟩) s.size cap) W1 ∧ RdB W1 (some ⟨W.heap.size, 0, none⟩) s ∧ Below W.heap.size W W1 := by
  refine ⟨_, _, Lib.run_convert_string_bytes W src dst e s hs hd he, fun i hi => ⟨W.heap.size, 0, rfl, ?_⟩, ⟨rfl, rfl, rfl, by rw [Lib.bytesWorld_size]; omega, fun k hk => Lib.bytesWorld_at_old W e s k hk⟩⟩
  rw [Nat.zero_add, Lib.bytesWorld_cell W e s i hi]
  congr 3
  simp [List.getD_eq_getElem?_getD, List.getElem?_eq_getElem (show i < s.data.toList.length by simpa using hi)]
  rfl

set_option maxHeartbeats 4000000 in
theorem odd_clos (c : Int) (w : World) :
    Calls Try.prog 103 #[.int .u8 c] w fun e w' => e = .returned (.bool (!printI c)) ∧ w = w' := by
  rcases (by omega : c < 32 ∨ (32 ≤ c ∧ 126 < c) ∨ (32 ≤ c ∧ c ≤ 126)) with h | ⟨h, h1⟩ | ⟨h, h1⟩
  all_goals
    go_enter Try.func103, Try.ntmps103
    go_wp2
    go_ret
    refine ⟨ret_bool ?_, rfl⟩
  · rw [print_false (by omega)]; rfl
  · rw [print_false (by omega)]; rfl
  · rw [print_true (by omega)]; simp; omega
set_option maxHeartbeats 4000000 in
theorem odd_index (A : Option Addr) (cap : Nat) (s : ByteArray) (w : World) (hs : s.size ≤ 9223372036854775807) (h : RdB w A s) :
    Calls Try.prog 125 #[.slice A s.size cap, .func (.func 103) #[] #[]] w fun e w' => (∃ r : Int, e = .returned (.int .i64 r) ∧ (r < 0 ↔ byTo printI s s.size = true)) ∧ w = w' := by
  have H := Lib.hid h
  clear h
  go_enter Try.func125, Try.ntmps125
  go_wp2
  go_loop [8] (fun i => ∃ k : Nat, k ≤ s.size ∧ i = .int .i64 k ∧ Hid (byTo printI s k = true)) (fun i => s.size - (intOf i).toNat)
  case atStart => exact ⟨0, Nat.zero_le _, rfl, rfl⟩
  case round =>
    obtain ⟨k, hk, rfl, Hk⟩ := hrel
    by_cases hlt : k < s.size
    · obtain ⟨b, off, rfl, hc⟩ := H.out k hlt
      have hn : Hid (printI (s[k]'hlt).toNat = false → byTo printI s s.size = false) := byTo_bad hlt
      have hy : Hid (printI (s[k]'hlt).toNat = true → byTo printI s (k + 1) = true) := byTo_next hlt Hk.out
      cases hp : printI (s[k]'hlt).toNat
      · have h1 := hn.out hp
        have HP := Lib.hid hp
        clear hp hn hy
        go_wp2_with (go_at_call 103; refine (odd_clos _ _).mono ?_; rw [HP.out]; rintro e w' ⟨rfl, rfl⟩)
        go_ret
        exact ⟨⟨k, rfl, by rw [h1]; simp⟩, rfl⟩
      · have h1 := Lib.hid (hy.out hp)
        have HP := Lib.hid hp
        clear hp hn hy
        go_wp2_with (go_at_call 103; refine (odd_clos _ _).mono ?_; rw [HP.out]; rintro e w' ⟨rfl, rfl⟩)
        exact ⟨⟨k + 1, by omega, by go_num, h1⟩, by simp [intOf]; omega⟩
    · go_wp2
      go_ret
      obtain rfl : k = s.size := by omega
      exact ⟨⟨-1, rfl, by rw [Hk.out]; simp⟩, rfl⟩
set_option maxHeartbeats 4000000 in
theorem odd_contains (A : Option Addr) (cap : Nat) (s : ByteArray) (w : World) (hs : s.size ≤ 9223372036854775807) (h : RdB w A s) :
    Calls Try.prog 104 #[.slice A s.size cap, .func (.func 103) #[] #[]] w fun e w' => e = .returned (.bool (!byTo printI s s.size)) ∧ w = w' := by
  have hc := odd_index A cap s w hs h
  have HC := Lib.hid hc
  clear hc h
  go_enter Try.func104, Try.ntmps104
  go_wp2_with (go_at_call 125; refine HC.out.mono ?_; rintro e w' ⟨⟨r, rfl, hr⟩, rfl⟩; have hr := Lib.hid hr)
  go_ret
  refine ⟨ret_bool ?_, rfl⟩
  have h := hr.out
  cases hb : byTo printI s s.size
  · rw [hb] at h; simp only [Bool.false_eq_true, iff_false] at h; simp; omega
  · rw [hb] at h; simp only [iff_true] at h; simp; omega
set_option maxHeartbeats 4000000 in
set_option maxRecDepth 100000 in
theorem value_May (a b c : Int) (d : ByteArray) (w : World) (hd : d.size ≤ 9223372036854775807) :
    Calls Try.prog 72 #[.agg #[.int .i64 a, .int .i64 b, .int .i64 c, .string d]] w fun e w' => e = .returned (.bool (vokB ⟨a, b, c, d⟩)) ∧ Below w.heap.size w w' := by
  rcases vrange_cases ⟨a, b, c, d⟩ with h | h | ⟨h1, h⟩ | ⟨h1, h2, h⟩ | ⟨h1, h2, h3, h⟩ | ⟨h1, h2, h3, h4, h⟩ | ⟨h1, h2, h3, h4, h5, h⟩ | ⟨h1, h2, h3, h4, h5, h6, h⟩
  · have HR := Lib.hid h
    obtain ⟨h1, h2, h3, h4, h5, h6, h7⟩ := h
    dsimp only at h1 h2 h3 h4 h5 h6 h7
    go_enter Try.func72, Try.ntmps72
    obtain ⟨W1, cap, hrun, hrd, hb⟩ := conv_bytes (P := Try.prog) 9 119 5 d Try.underlying9 Try.underlying119 Try.underlying5 (w.alloc (.cells #[.int .i64 a, .int .i64 b, .int .i64 c, .string d] 24))
    simp only [World.size_alloc] at hrun hrd
    have HRD := Lib.hid hrd
    have HB : Hid (Below w.heap.size w W1) := ((Below.refl w.heap.size w).alloc (Nat.le_refl _) (.cells #[.int .i64 a, .int .i64 b, .int .i64 c, .string d] 24)).trans (hb.mono (by simp))
    clear hrd hb
    go_wp2_with (go_at_call 104; refine (odd_contains _ _ _ _ hd HRD.out).mono ?_; rintro e w' ⟨rfl, rfl⟩)
    go_ret
    refine ⟨ret_bool (by unfold vokB; rw [decide_eq_true HR.out]; simp), HB.out⟩
  all_goals
    have HR : Hid (¬ vrange ⟨a, b, c, d⟩) := by unfold vrange Hid; dsimp only at *; omega
    dsimp only at *
    go_enter Try.func72, Try.ntmps72
    go_wp2
    go_ret
    exact ⟨ret_bool (vok_out HR.out), (Below.refl _ _).alloc (Nat.le_refl _) _⟩
end Go.Proofs.Ytialmfbjkegjoaa
