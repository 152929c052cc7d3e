/- Contract of digest.Sum. -/
import Derived.Test.YtialmfbjkegjoaaN2
set_option linter.unusedVariables false
set_option linter.unusedSimpArgs false
namespace Go.Proofs.Ytialmfbjkegjoaa
open Go.RowKit

/-- FNV-1a. -/
def sumStep (h : Nat) (b : UInt8) : Nat := (h ^^^ b.toNat) * 1099511628211 % 18446744073709551616
def sumL (l : List UInt8) : Nat := l.foldl sumStep 14695981039346656037
theorem sumStep_lt (h : Nat) (b : UInt8) : sumStep h b < 18446744073709551616 := Nat.mod_lt _ (by omega)
theorem sumFold_lt : ∀ (l : List UInt8) (h : Nat), h < 18446744073709551616 → l.foldl sumStep h < 18446744073709551616
  | [], h, hh => hh
  | b :: r, h, _ => sumFold_lt r (sumStep h b) (sumStep_lt h b)
theorem sumL_lt (l : List UInt8) : sumL l < 18446744073709551616 := sumFold_lt l _ (by omega)
theorem sum_next {l : List UInt8} {k : Nat} (h : k < l.length) : sumL (l.take (k + 1)) = sumStep (sumL (l.take k)) l[k] := by
  unfold sumL
  rw [List.take_succ_eq_append_getElem h, List.foldl_append, List.foldl_cons, List.foldl_nil]
theorem xor_step (h : Nat) (b : UInt8) (hh : h < 18446744073709551616) : IntKind.u64.wrap (bits .xor .u64 (h : Int) (b.toNat : Int) * 1099511628211) = ((sumStep h b : Nat) : Int) := by
  have hb := b.toNat_lt
  rw [u64_xor_nat h b.toNat hh (by omega)]
  unfold sumStep
  generalize h ^^^ b.toNat = z
  simp only [IntKind.wrap, IntKind.bits, IntKind.signed, Bool.false_and, Bool.false_eq_true, if_false]
  omega
set_option maxHeartbeats 1000000 in
set_option maxRecDepth 100000 in
theorem digest_Sum (A : Option Addr) (c : Nat) (t : List PSeen) (w : World) (h : RdS encSeen 5 w A t) (ho : ∀ x ∈ t, x.contact.size ≤ 9223372036854775000 ∧ x.value.status.size ≤ 9223372036854775000) :
    Calls Try.prog 31 #[.slice A t.length c] w fun e w' => e = .returned (.int .u64 (sumL (putT t))) ∧ Below w.heap.size w w' := by
  have hP := digest_Put A c t w h ho
  have hl : (putT t).length ≤ 9223372036854775807 := by
    unfold putT
    split
    · rename_i hm
      unfold mayT at hm
      simp only [Bool.and_eq_true, decide_eq_true_eq] at hm
      have := putsR_len t
      have := putL_ten (n := t.length) (by omega)
      rw [List.length_append]
      omega
    · simp
  clear h ho
  generalize putT t = l at hP hl
  generalize mayT less3 t = b at hP
  have HCV : Hid (∀ W : World, ∃ W1 cap, (convert 9 119 (.string ⟨l.toArray⟩)).run Try.prog W = .ok (.slice (some ⟨W.heap.size, 0, none⟩) l.length cap) W1 ∧ RdB W1 (some ⟨W.heap.size, 0, none⟩) ⟨l.toArray⟩ ∧ Below W.heap.size W W1) := fun W => conv_bytes (P := Try.prog) 9 119 5 ⟨l.toArray⟩ Try.underlying9 Try.underlying119 Try.underlying5 W
  go_enter Try.func31, Try.ntmps31
  go_wp2_with (first | (go_at_call 27; refine hP.mono ?_; rintro e w1 ⟨rfl, hb1⟩; have HB1 := Lib.hid hb1; clear hb1; obtain ⟨W1, cap, hcv, hrd, hb⟩ := HCV.out w1; have HRD := Lib.hid hrd; have HB2 := Lib.hid hb; clear hrd hb))
  go_loop [5, 16] (fun hv i => ∃ k : Nat, k ≤ l.length ∧ i = .int .i64 k ∧ hv = .int .u64 (sumL (l.take k))) (fun _ i => l.length - (intOf i).toNat)
  case atStart => exact ⟨0, Nat.zero_le _, rfl, rfl⟩
  case round =>
    obtain ⟨k, hk, rfl, rfl⟩ := hrel
    by_cases hlt : k < l.length
    · obtain ⟨b, off, e, h0⟩ := HRD.out k hlt
      cases e
      have h0 : W1.cell? ⟨w1.heap.size, 0 + k, none⟩ = some (.int .u8 l[k].toNat) := h0
      rw [Nat.zero_add] at h0
      have hx := Lib.hid (xor_step _ l[k] (sumL_lt (l.take k)))
      have hn := Lib.hid (sum_next hlt)
      go_wp2
      refine ⟨⟨k + 1, by omega, by go_num, ?_⟩, by simp [intOf]; omega⟩
      have e : IntKind.u64.wrap ((l[k].toNat : Nat) : Int) = ((l[k].toNat : Nat) : Int) := by
        have := l[k].toNat_lt
        simp only [IntKind.wrap, IntKind.bits, IntKind.signed, Bool.false_and, Bool.false_eq_true, if_false]
        omega
      rw [e, hn.out]
      exact congrArg (Value.int .u64) hx.out
    · go_wp2
      go_ret
      have e : l.take k = l := List.take_of_length_le (by omega)
      refine ⟨?_, HB1.out.trans (HB2.out.mono HB1.out.size)⟩
      have e2 : Ending.returned (Value.int .u64 ((sumL (l.take k) : Nat) : Int)) = .returned (.int .u64 ((sumL l : Nat) : Int)) := by rw [e]
      exact e2
end Go.Proofs.Ytialmfbjkegjoaa
