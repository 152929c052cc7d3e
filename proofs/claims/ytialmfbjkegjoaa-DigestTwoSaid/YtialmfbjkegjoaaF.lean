/- Contracts of rollcallref05.May and digest.May. -/
import Derived.Test.YtialmfbjkegjoaaE
set_option linter.unusedVariables false
set_option linter.unusedSimpArgs false
namespace Go.Proofs.Ytialmfbjkegjoaa
open Go.RowKit

/-- May row i be, behind the one ahead of it? -/
def rowB (less : ByteArray → ByteArray → Bool) (xs : List PSeen) (i : Nat) : Bool := match xs[i]? with
  | none => true
  | some x => isB x.contact && vokB x.value && (match i with | 0 => true | j + 1 => match xs[j]? with | some y => less y.contact x.contact | none => true)
def rowsTo (less : ByteArray → ByteArray → Bool) (xs : List PSeen) (k : Nat) : Bool := (List.range k).all (rowB less xs)
theorem rowsTo_next {less : ByteArray → ByteArray → Bool} {xs : List PSeen} {k : Nat} (H : rowsTo less xs k = true) (h : rowB less xs k = true) : rowsTo less xs (k + 1) = true := by
  unfold rowsTo at *
  rw [List.range_succ, List.all_append, H]
  simp [h]
theorem rowsTo_bad {less : ByteArray → ByteArray → Bool} {xs : List PSeen} {k : Nat} (hk : k < xs.length) (h : rowB less xs k = false) : rowsTo less xs xs.length = false := by
  unfold rowsTo
  rw [List.all_eq_false]
  exact ⟨k, by simpa using hk, by simp [h]⟩
theorem rowB_zero (less : ByteArray → ByteArray → Bool) (xs : List PSeen) (hk : 0 < xs.length) : rowB less xs 0 = (isB xs[0].contact && vokB xs[0].value) := by
  unfold rowB; rw [List.getElem?_eq_getElem hk]; simp
theorem rowB_succ (less : ByteArray → ByteArray → Bool) (xs : List PSeen) (j : Nat) (hk : j + 1 < xs.length) : rowB less xs (j + 1) = (isB xs[j + 1].contact && vokB xs[j + 1].value && less xs[j].contact xs[j + 1].contact) := by
  unfold rowB; rw [List.getElem?_eq_getElem hk]; simp only [List.getElem?_eq_getElem (show j < xs.length by omega)]
def mayT (less : ByteArray → ByteArray → Bool) (xs : List PSeen) : Bool := decide (xs.length ≤ 32) && rowsTo less xs xs.length

def okStr (s : ByteArray) : Prop := s.size ≤ 9223372036854775807
def okSeen (x : PSeen) : Prop := okStr x.contact ∧ okStr x.value.status

theorem q03_Is {s : ByteArray} {b : Bool} {w : World} (p : BelowBy w) (h : isB s = b) (hs : s.size ≤ 9223372036854775807) : Calls Try.prog 24 #[.string s] p.world fun e w' => e = .returned (.bool b) ∧ ∃ p' : BelowBy w, w' = p'.world := Calls.same_of (h ▸ ref03_Is s p.world hs)
theorem q04_May {x : PV} {b : Bool} {w : World} (p : BelowBy w) (h : vokB x = b) (hs : x.status.size ≤ 9223372036854775807) : Calls Try.prog 25 #[.agg #[.int .i64 x.show_, .int .i64 x.prio, .int .i64 x.since, .string x.status]] p.world fun e w' => e = .returned (.bool b) ∧ ∃ p' : BelowBy w, w' = p'.world := Calls.below_of (h ▸ ref04_May _ _ _ _ p.world hs)
theorem q03_Less {x y : ByteArray} {b : Bool} {w : World} (p : BelowBy w) (h : less3 x y = b) (hx : x.size ≤ 9223372036854775807) (hy : y.size ≤ 9223372036854775807) : Calls Try.prog 26 #[.string x, .string y] p.world fun e w' => e = .returned (.bool b) ∧ ∃ p' : BelowBy w, w' = p'.world := Calls.same_of (h ▸ ref03_Less x y p.world hx hy)
set_option maxHeartbeats 1000000 in
set_option maxRecDepth 100000 in
theorem ref05_May (A : Option Addr) (c : Nat) (xs : List PSeen) (w : World) (h : RdS encSeen 5 w A xs) (ho : ∀ x ∈ xs, okSeen x) :
    Calls Try.prog 7 #[.slice A xs.length c] w fun e w' => e = .returned (.bool (mayT less3 xs)) ∧ Below w.heap.size w w' := by
  have hm := h.1
  have H := Lib.hid h
  have HO := Lib.hid ho
  clear h ho
  by_cases h32 : xs.length ≤ 32
  · go_enter Try.func7, Try.ntmps7
    go_wp2
    go_loopw [3] (fun i w' => ∃ k : Nat, k ≤ xs.length ∧ i = .int .i64 k ∧ Hid (rowsTo less3 xs k = true) ∧ Hid (Below w.heap.size w w')) (fun i _ => xs.length - (intOf i).toNat)
    case atStart => exact ⟨0, Nat.zero_le _, rfl, rfl, Below.refl _ _⟩
    case round =>
      obtain ⟨k, hk, rfl, Hk, HB⟩ := hrel
      by_cases hlt : k < xs.length
      · obtain ⟨b, off, rfl, h0, h1, h2, h3, h4⟩ := (H.out.below HB.out).seen k hlt
        have ok1 := HO.out xs[k] (List.getElem_mem hlt)
        unfold okSeen okStr at ok1
        cases hi : isB xs[k].contact
        · have HI := Lib.hid hi
          have hbad : rowB less3 xs k = false := by unfold rowB; rw [List.getElem?_eq_getElem hlt]; simp [hi]
          have HZ := Lib.hid (rowsTo_bad hlt hbad)
          clear hi hbad
          have c0 := BelowBy.cell h0
          clear h0 h1 h2 h3 h4
          go_wp2
          refine wp_region_below (by kernel_rfl) (by kernel_rfl) ?_
          repeat (go_big_quiet_step ((go_at_call 24; exact q03_Is (b := false) _ HI.out ok1.1)))
          refine wpQuiet_nil ?_
          rintro _ ⟨⟨w1, hb1⟩, rfl⟩
          go_wp2
          go_ret
          exact ⟨ret_bool (by unfold mayT; rw [HZ.out]; simp), HB.out.trans (hb1.mono HB.out.size)⟩
        cases hv : vokB xs[k].value
        · have HI := Lib.hid hi
          have HV := Lib.hid hv
          have hbad : rowB less3 xs k = false := by unfold rowB; rw [List.getElem?_eq_getElem hlt]; simp [hv]
          have HZ := Lib.hid (rowsTo_bad hlt hbad)
          clear hi hv hbad
          have c0 := BelowBy.cell h0
          have c1 := BelowBy.cell h1
          have c2 := BelowBy.cell h2
          have c3 := BelowBy.cell h3
          have c4 := BelowBy.cell h4
          clear h0 h1 h2 h3 h4
          go_wp2
          refine wp_region_below (by kernel_rfl) (by kernel_rfl) ?_
          repeat (go_big_quiet_step (first | (go_at_call 24; exact q03_Is (b := true) _ HI.out ok1.1) | (go_at_call 25; exact q04_May (b := false) _ HV.out ok1.2)))
          refine wpQuiet_nil ?_
          rintro _ ⟨⟨w1, hb1⟩, rfl⟩
          go_wp2
          go_ret
          exact ⟨ret_bool (by unfold mayT; rw [HZ.out]; simp), HB.out.trans (hb1.mono HB.out.size)⟩
        have HI := Lib.hid hi
        have HV := Lib.hid hv
        by_cases hk0 : 0 < k
        · have hlt1 : k - 1 < xs.length := by omega
          obtain ⟨b', off', e', g0, -⟩ := (H.out.below HB.out).seen (k - 1) hlt1
          simp only [Option.some.injEq, Addr.mk.injEq, and_true] at e'
          obtain ⟨rfl, rfl⟩ := e'
          have d0 := BelowBy.cell g0
          clear g0
          have ok2 := HO.out xs[k - 1] (List.getElem_mem hlt1)
          unfold okSeen okStr at ok2
          have hr : rowB less3 xs k = less3 xs[k - 1].contact xs[k].contact := by
            obtain ⟨j, rfl⟩ : ∃ j, k = j + 1 := ⟨k - 1, by omega⟩
            rw [rowB_succ less3 xs j hlt, hi, hv]; rfl
          cases hs : less3 xs[k - 1].contact xs[k].contact
          · have HS := Lib.hid hs
            have HZ := Lib.hid (rowsTo_bad hlt (hr.trans hs))
            clear hi hv hr hs
            have c0 := BelowBy.cell h0
            have c1 := BelowBy.cell h1
            have c2 := BelowBy.cell h2
            have c3 := BelowBy.cell h3
            have c4 := BelowBy.cell h4
            clear h0 h1 h2 h3 h4
            go_wp2
            refine wp_region_below (by kernel_rfl) (by kernel_rfl) ?_
            repeat (go_big_quiet_step (first | (go_at_call 24; exact q03_Is (b := true) _ HI.out ok1.1) | (go_at_call 25; exact q04_May (b := true) _ HV.out ok1.2) | (go_at_call 26; exact q03_Less (b := false) _ HS.out ok2.1 ok1.1)))
            refine wpQuiet_nil ?_
            rintro _ ⟨⟨w1, hb1⟩, rfl⟩
            go_wp2
            go_ret
            exact ⟨ret_bool (by unfold mayT; rw [HZ.out]; simp), HB.out.trans (hb1.mono HB.out.size)⟩
          · have HS := Lib.hid hs
            have HZ := Lib.hid (rowsTo_next Hk.out (hr.trans hs))
            clear hi hv hr hs
            have c0 := BelowBy.cell h0
            have c1 := BelowBy.cell h1
            have c2 := BelowBy.cell h2
            have c3 := BelowBy.cell h3
            have c4 := BelowBy.cell h4
            clear h0 h1 h2 h3 h4
            go_wp2
            refine wp_region_below (by kernel_rfl) (by kernel_rfl) ?_
            repeat (go_big_quiet_step (first | (go_at_call 24; exact q03_Is (b := true) _ HI.out ok1.1) | (go_at_call 25; exact q04_May (b := true) _ HV.out ok1.2) | (go_at_call 26; exact q03_Less (b := true) _ HS.out ok2.1 ok1.1)))
            refine wpQuiet_nil ?_
            rintro _ ⟨⟨w1, hb1⟩, rfl⟩
            go_wp2
            exact ⟨⟨k + 1, by omega, by go_num, HZ.out, HB.out.trans (hb1.mono HB.out.size)⟩, by simp [intOf]; omega⟩
        · obtain rfl : k = 0 := by omega
          have HZ := Lib.hid (rowsTo_next Hk.out (by rw [rowB_zero less3 xs hlt, hi, hv]; rfl))
          clear hi hv
          simp only [Nat.zero_mul, Nat.add_zero] at h0 h1 h2 h3 h4
          have c0 := BelowBy.cell h0
          have c1 := BelowBy.cell h1
          have c2 := BelowBy.cell h2
          have c3 := BelowBy.cell h3
          have c4 := BelowBy.cell h4
          clear h0 h1 h2 h3 h4
          go_wp2
          refine wp_region_below (by kernel_rfl) (by kernel_rfl) ?_
          repeat (go_big_quiet_step (first | (go_at_call 24; exact q03_Is (b := true) _ HI.out ok1.1) | (go_at_call 25; exact q04_May (b := true) _ HV.out ok1.2)))
          refine wpQuiet_nil ?_
          rintro _ ⟨⟨w1, hb1⟩, rfl⟩
          go_wp2
          exact ⟨⟨1, by omega, by go_num, HZ.out, HB.out.trans (hb1.mono HB.out.size)⟩, by simp [intOf]; omega⟩
      · go_wp2
        go_ret
        obtain rfl : k = xs.length := by omega
        exact ⟨ret_bool (by unfold mayT; rw [Hk.out, decide_eq_true h32]; rfl), HB.out⟩
  · go_enter Try.func7, Try.ntmps7
    go_wp2
    go_ret
    exact ⟨ret_bool (by unfold mayT; rw [decide_eq_false h32]; rfl), Below.refl _ _⟩

theorem compare_less : ∀ a b : List UInt8, decide (Lib.compareBytes a b < 0) = Op.bytesLess a b
  | [], [] => rfl
  | [], _ :: _ => rfl
  | _ :: _, [] => rfl
  | a :: r, b :: s => by
    have ih := compare_less r s
    unfold Lib.compareBytes Op.bytesLess
    rw [← ih]
    by_cases h1 : a < b
    · simp [h1]
    · by_cases h2 : b < a
      · have : (a == b) = false := by rw [beq_eq_false_iff_ne]; intro e; subst e; exact h1 h2
        simp [h1, h2, this]
      · have h3 : a = b := by
          have h1' : ¬ a.toNat < b.toNat := h1
          have h2' : ¬ b.toNat < a.toNat := h2
          exact UInt8.toNat_inj.1 (by omega)
        subst h3
        simp
theorem lessB_eq (a b : ByteArray) : lessB a b = less3 a b := by
  unfold lessB less3 compareI
  rw [ByteArray.toList_eq, ByteArray.toList_eq, ← compare_less]
  by_cases h1 : a.size < b.size
  · simp [h1]
  · by_cases h2 : b.size < a.size
    · have : ¬ a.size = b.size := by omega
      simp [h1, h2, this]
    · have : a.size = b.size := by omega
      simp [this]
theorem qident_Is {s : ByteArray} {b : Bool} {w : World} (p : BelowBy w) (h : isB s = b) (hs : s.size ≤ 9223372036854775807) : Calls Try.prog 42 #[.string s] p.world fun e w' => e = .returned (.bool b) ∧ ∃ p' : BelowBy w, w' = p'.world := Calls.below_of (h ▸ ident_Is s p.world hs)
theorem qvalue_May {x : PV} {b : Bool} {w : World} (p : BelowBy w) (h : vokB x = b) (hs : x.status.size ≤ 9223372036854775807) : Calls Try.prog 72 #[.agg #[.int .i64 x.show_, .int .i64 x.prio, .int .i64 x.since, .string x.status]] p.world fun e w' => e = .returned (.bool b) ∧ ∃ p' : BelowBy w, w' = p'.world := Calls.below_of (h ▸ value_May _ _ _ _ p.world hs)
theorem qident_Less {x y : ByteArray} {b : Bool} {w : World} (p : BelowBy w) (h : less3 x y = b) : Calls Try.prog 36 #[.string x, .string y] p.world fun e w' => e = .returned (.bool b) ∧ ∃ p' : BelowBy w, w' = p'.world := Calls.below_of (by have := ident_Less x y p.world; rwa [lessB_eq, h] at this)
theorem alloc_seen (w : World) (x : PSeen) (T : TypeId) : ∃ W, w.alloc (.cells #[.string x.contact, .int .i64 x.value.show_, .int .i64 x.value.prio, .int .i64 x.value.since, .string x.value.status] T) = W ∧ Below w.heap.size w W ∧ W.heap.size = w.heap.size + 1 ∧
    W.cell? ⟨w.heap.size, 0, none⟩ = some (.string x.contact) ∧ W.cell? ⟨w.heap.size, 1, none⟩ = some (.int .i64 x.value.show_) ∧ W.cell? ⟨w.heap.size, 2, none⟩ = some (.int .i64 x.value.prio) ∧ W.cell? ⟨w.heap.size, 3, none⟩ = some (.int .i64 x.value.since) ∧ W.cell? ⟨w.heap.size, 4, none⟩ = some (.string x.value.status) :=
  ⟨_, rfl, (Below.refl _ _).alloc (Nat.le_refl _) _, by simp, by simp, by simp, by simp, by simp, by simp⟩
set_option maxHeartbeats 1000000 in
set_option maxRecDepth 100000 in
theorem digest_May (A : Option Addr) (c : Nat) (xs : List PSeen) (w : World) (h : RdS encSeen 5 w A xs) (ho : ∀ x ∈ xs, okSeen x) :
    Calls Try.prog 32 #[.slice A xs.length c] w fun e w' => e = .returned (.bool (mayT less3 xs)) ∧ Below w.heap.size w w' := by
  have hm := h.1
  have H := Lib.hid h
  have HO := Lib.hid ho
  clear h ho
  go_enter Try.func32, Try.ntmps32
  go_wp2
  go_loopw [7] (fun i w' => ∃ k : Nat, k ≤ xs.length ∧ i = .int .i64 k ∧ Hid (rowsTo less3 xs k = true) ∧ Hid (Below w.heap.size w w')) (fun i _ => xs.length - (intOf i).toNat)
  case atStart => exact ⟨0, Nat.zero_le _, rfl, rfl, Below.refl _ _⟩
  case round =>
    obtain ⟨k, hk, rfl, Hk, HB⟩ := hrel
    by_cases hlt : k < xs.length
    · obtain ⟨b, off, rfl, h0, h1, h2, h3, h4⟩ := (H.out.below HB.out).seen k hlt
      obtain ⟨W, hW, hBW, hsz, g0, g1, g2, g3, g4⟩ := alloc_seen wr xs[k] 62
      have ok1 := HO.out xs[k] (List.getElem_mem hlt)
      unfold okSeen okStr at ok1
      have HW := Lib.hid hW
      have HBW : Hid (Below w.heap.size w W) := HB.out.trans (hBW.mono HB.out.size)
      have c0 := BelowBy.cell g0
      have c1 := BelowBy.cell g1
      have c2 := BelowBy.cell g2
      have c3 := BelowBy.cell g3
      have c4 := BelowBy.cell g4
      clear g0 g1 g2 g3 g4 hsz hW
      cases hi : isB xs[k].contact
      · have HI := Lib.hid hi
        have HZ := Lib.hid (rowsTo_bad (less := less3) hlt (by unfold rowB; rw [List.getElem?_eq_getElem hlt]; simp [hi]))
        clear hi hBW
        go_wp2
        rw [HW.out]
        refine wp_region_below (by kernel_rfl) (by kernel_rfl) ?_
        repeat (go_big_quiet_step (first | (go_at_call 42; exact qident_Is (b := false) _ HI.out ok1.1)))
        refine wpQuiet_nil ?_
        rintro _ ⟨⟨w1, hb1⟩, rfl⟩
        go_wp2
        go_ret
        exact ⟨ret_bool (by unfold mayT; rw [HZ.out]; simp), HBW.out.trans (hb1.mono HBW.out.size)⟩
      cases hv : vokB xs[k].value
      · have HI := Lib.hid hi
        have HV := Lib.hid hv
        have HZ := Lib.hid (rowsTo_bad (less := less3) hlt (by unfold rowB; rw [List.getElem?_eq_getElem hlt]; simp [hv]))
        clear hi hv hBW
        go_wp2
        rw [HW.out]
        refine wp_region_below (by kernel_rfl) (by kernel_rfl) ?_
        repeat (go_big_quiet_step (first | (go_at_call 42; exact qident_Is (b := true) _ HI.out ok1.1) | (go_at_call 72; exact qvalue_May (b := false) _ HV.out ok1.2)))
        refine wpQuiet_nil ?_
        rintro _ ⟨⟨w1, hb1⟩, rfl⟩
        go_wp2
        go_ret
        exact ⟨ret_bool (by unfold mayT; rw [HZ.out]; simp), HBW.out.trans (hb1.mono HBW.out.size)⟩
      have HI := Lib.hid hi
      have HV := Lib.hid hv
      by_cases hk0 : 0 < k
      · have hlt1 : k - 1 < xs.length := by omega
        obtain ⟨b', off', e', g0, -⟩ := (H.out.below HB.out).seen (k - 1) hlt1
        simp only [Option.some.injEq, Addr.mk.injEq, and_true] at e'
        obtain ⟨rfl, rfl⟩ := e'
        have d0 := BelowBy.cell (w := W) (by rw [hBW.cell (World.block_lt_of_cell? wr _ g0), g0])
        clear g0
        have hr : rowB less3 xs k = less3 xs[k - 1].contact xs[k].contact := by
          obtain ⟨j, rfl⟩ : ∃ j, k = j + 1 := ⟨k - 1, by omega⟩
          rw [rowB_succ less3 xs j hlt, hi, hv]; rfl
        cases hs : less3 xs[k - 1].contact xs[k].contact
        · have HS := Lib.hid hs
          have HZ := Lib.hid (rowsTo_bad hlt (hr.trans hs))
          clear hi hv hr hs hBW
          go_wp2
          rw [HW.out]
          refine wp_region_below (by kernel_rfl) (by kernel_rfl) ?_
          repeat (go_big_quiet_step (first | (go_at_call 42; exact qident_Is (b := true) _ HI.out ok1.1) | (go_at_call 72; exact qvalue_May (b := true) _ HV.out ok1.2) | (go_at_call 36; exact qident_Less (b := false) _ HS.out)))
          refine wpQuiet_nil ?_
          rintro _ ⟨⟨w1, hb1⟩, rfl⟩
          go_wp2
          go_ret
          exact ⟨ret_bool (by unfold mayT; rw [HZ.out]; simp), HBW.out.trans (hb1.mono HBW.out.size)⟩
        · have HS := Lib.hid hs
          have HZ := Lib.hid (rowsTo_next Hk.out (hr.trans hs))
          clear hi hv hr hs hBW
          go_wp2
          rw [HW.out]
          refine wp_region_below (by kernel_rfl) (by kernel_rfl) ?_
          repeat (go_big_quiet_step (first | (go_at_call 42; exact qident_Is (b := true) _ HI.out ok1.1) | (go_at_call 72; exact qvalue_May (b := true) _ HV.out ok1.2) | (go_at_call 36; exact qident_Less (b := true) _ HS.out)))
          refine wpQuiet_nil ?_
          rintro _ ⟨⟨w1, hb1⟩, rfl⟩
          go_wp2
          exact ⟨⟨k + 1, by omega, by go_num, HZ.out, HBW.out.trans (hb1.mono HBW.out.size)⟩, by simp [intOf]; omega⟩
      · obtain rfl : k = 0 := by omega
        have HZ := Lib.hid (rowsTo_next Hk.out (by rw [rowB_zero less3 xs hlt, hi, hv]; rfl))
        clear hi hv hBW
        simp only [Nat.zero_mul, Nat.add_zero] at h0 h1 h2 h3 h4
        go_wp2
        rw [HW.out]
        refine wp_region_below (by kernel_rfl) (by kernel_rfl) ?_
        repeat (go_big_quiet_step (first | (go_at_call 42; exact qident_Is (b := true) _ HI.out ok1.1) | (go_at_call 72; exact qvalue_May (b := true) _ HV.out ok1.2)))
        refine wpQuiet_nil ?_
        rintro _ ⟨⟨w1, hb1⟩, rfl⟩
        go_wp2
        exact ⟨⟨1, by omega, by go_num, HZ.out, HBW.out.trans (hb1.mono HBW.out.size)⟩, by simp [intOf]; omega⟩
    · go_wp2
      go_ret
      obtain rfl : k = xs.length := by omega
      exact ⟨ret_bool (by unfold mayT; rw [Hk.out, Bool.and_true]; exact decide_eq_decide.2 (by omega)), HB.out⟩
end Go.Proofs.Ytialmfbjkegjoaa
