/- Contracts of the references of layer 5. -/
import Derived.Test.YtialmfbjkegjoaaB
import Derived.Test.YtialmfbjkegjoaaK
import Derived.Test.YtialmfbjkegjoaaEq
import Derived.Deep.QuietTactic
import Derived.BigQuiet
set_option linter.unusedVariables false
set_option linter.unusedSimpArgs false
namespace Go.Proofs.Ytialmfbjkegjoaa
open Go.RowKit

def shortSeen (x : PSeen) : Bool := decide (x.contact.size ≤ 60) && decide (x.value.status.size ≤ 100)
def few5 (xs : List PSeen) : Bool := decide (xs.length ≤ 40) && xs.all shortSeen

theorem ref05_Few (A : Option Addr) (c : Nat) (xs : List PSeen) (w : World) (h : RdS encSeen 5 w A xs) :
    Calls Try.prog 6 #[.slice A xs.length c] w fun e w' => e = .returned (.bool (few5 xs)) ∧ Below w.heap.size w w' := by
  have hm := h.1
  have H := Lib.hid h
  clear h
  go_enter Try.func6, Try.ntmps6
  go_wp2
  · go_ret
    exact ⟨ret_bool (by unfold few5; rw [decide_eq_false (by omega)]; rfl), Below.refl _ _⟩
  · go_loop [3] (fun i => ∃ k : Nat, k ≤ xs.length ∧ i = .int .i64 k ∧ Hid ((xs.take k).all shortSeen = true)) (fun i => xs.length - (intOf i).toNat)
    case atStart => exact ⟨0, Nat.zero_le _, rfl, by simp [Hid]⟩
    case round =>
      obtain ⟨k, hk, rfl, Hk⟩ := hrel
      by_cases hlt : k < xs.length
      · obtain ⟨b, off, rfl, h0, h1, h2, h3, h4⟩ := H.out.seen k hlt
        go_wp2
        all_goals first
          | (go_ret; exact ⟨ret_bool (by unfold few5; rw [all_bad hlt (by unfold shortSeen; simp; omega)]; simp), Below.refl _ _⟩)
          | exact ⟨⟨k + 1, by omega, by go_num, all_next hlt Hk.out (by unfold shortSeen; simp; omega)⟩, by simp [intOf]; omega⟩
      · go_wp2
        go_ret
        exact ⟨ret_bool (by unfold few5; rw [all_end hlt Hk.out, decide_eq_true (by omega)]; rfl), Below.refl _ _⟩

def less3 (a b : ByteArray) : Bool := decide (a.size < b.size) || (decide (a.size = b.size) && Op.bytesLess a.toList b.toList)
theorem ref03_Less (a b : ByteArray) (w : World) (ha : a.size ≤ 9223372036854775807) (hb : b.size ≤ 9223372036854775807) :
    Calls Try.prog 26 #[.string a, .string b] w fun e w' => e = .returned (.bool (less3 a b)) ∧ w = w' := by
  go_enter Try.func26, Try.ntmps26
  go_wp2
  all_goals go_ret
  · rename_i h; exact ⟨ret_bool (by unfold less3; rw [decide_eq_true (by omega : a.size = b.size)]; rfl), rfl⟩
  · rename_i h; exact ⟨ret_bool (by unfold less3; rw [decide_eq_false (by omega : ¬ a.size = b.size)]; simp), rfl⟩
  · exact ⟨ret_bool (by unfold less3; rw [decide_eq_true (by omega : a.size < b.size)]; rfl), rfl⟩

attribute [local go_sem high] eqSeen
theorem ref05_Same (A B : Option Addr) (c d : Nat) (xs ys : List PSeen) (w : World) (h : RdS encSeen 5 w A xs) (g : RdS encSeen 5 w B ys) :
    Calls Try.prog 10 #[.slice A xs.length c, .slice B ys.length d] w fun e w' => e = .returned (.bool (decide (xs = ys))) ∧ Below w.heap.size w w' := by
  have hm := h.1
  have gm := g.1
  have H := Lib.hid h
  have G := Lib.hid g
  clear h g
  by_cases hl : xs.length = ys.length
  · have hl2 : ((xs.length : Int) != ys.length) = false := bne_eq_false_iff_eq.2 (by omega)
    have HL := Lib.hid hl
    clear hl
    go_enter Try.func10, Try.ntmps10
    go_wp2
    go_loopw [5] (fun i w' => ∃ k : Nat, k ≤ xs.length ∧ i = .int .i64 k ∧ Hid (xs.take k = ys.take k) ∧ Hid (Below w.heap.size w w')) (fun i _ => xs.length - (intOf i).toNat)
    case atStart => exact ⟨0, Nat.zero_le _, rfl, by simp [Hid], Below.refl _ _⟩
    case round =>
      obtain ⟨k, hk, rfl, Hk, HB⟩ := hrel
      by_cases hlt : k < xs.length
      · obtain ⟨b, off, rfl, h0, h1, h2, h3, h4⟩ := (H.out.below HB.out).seen k hlt
        have hlt2 : k < ys.length := by have := HL.out; omega
        obtain ⟨b', off', rfl, g0, g1, g2, g3, g4⟩ := (G.out.below HB.out).seen k hlt2
        go_wp2
        go_quiet (fail)
        go_wp2
        rotate_left 1
        · exact ⟨⟨k + 1, by omega, by go_num, take_next hlt hlt2 Hk.out (eqSeenB_yes ‹_›), below_drewN HB.out _⟩, by simp [intOf]; omega⟩
        go_ret
        exact ⟨ret_bool (decide_eq_false (ne_at hlt hlt2 (eqSeenB_no ‹_›))).symm, below_drewN HB.out _⟩
      · go_wp2
        go_ret
        exact ⟨ret_bool (decide_eq_true (take_end HL.out hlt Hk.out)).symm, HB.out⟩
  · have hl2 : ((xs.length : Int) != ys.length) = true := bne_iff_ne.2 (by omega)
    go_enter Try.func10, Try.ntmps10
    go_wp2
    go_ret
    exact ⟨ret_bool (decide_eq_false (fun e => hl (by rw [e]))).symm, Below.refl _ _⟩
end Go.Proofs.Ytialmfbjkegjoaa
