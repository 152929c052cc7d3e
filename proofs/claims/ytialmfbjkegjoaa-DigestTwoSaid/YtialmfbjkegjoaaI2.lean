/- Contracts of varint.Take, Text. -/
import Derived.Test.YtialmfbjkegjoaaI
set_option linter.unusedVariables false
set_option linter.unusedSimpArgs false
namespace Go.Proofs.Ytialmfbjkegjoaa
open Go.RowKit

theorem getGo_err : ∀ (l : List UInt8) (i n : Nat), (getGo l i n).2.2 = 0 ∨ (getGo l i n).2.2 = 2 ∨ (getGo l i n).2.2 = 3
  | [], i, n => Or.inr (Or.inl rfl)
  | b :: r, i, n => by
    rw [getGo]
    split
    · exact Or.inr (Or.inr rfl)
    · split
      · exact getGo_err r _ _
      · split
        · exact Or.inr (Or.inr rfl)
        · exact Or.inl rfl
theorem getGo_ok : ∀ (l : List UInt8) (i n : Nat), i ≤ 9 → n < 2 ^ (7 * i) → (getGo l i n).2.2 = 0 → (getGo l i n).1 < 2 ^ 64 ∧ i < (getGo l i n).2.1 ∧ (getGo l i n).2.1 ≤ i + l.length
  | [], i, n, _, _, h => by simp [getGo] at h
  | b :: r, i, n, hi, hn, h => by
    rw [getGo] at h ⊢
    split at h
    · cases h
    · rename_i h1
      rw [if_neg h1]
      split at h
      · rename_i h2
        rw [if_pos h2]
        have := b.toNat_lt
        have := getGo_ok r (i + 1) _ (by omega) (pow_step hn) h
        simp only [List.length_cons]
        omega
      · rename_i h2
        rw [if_neg h2]
        split at h
        · cases h
        · rename_i h3
          rw [if_neg h3]
          refine ⟨?_, by simp, by simp only [List.length_cons]; omega⟩
          show n + b.toNat % 128 * 2 ^ (7 * i) < 2 ^ 64
          by_cases h9 : i = 9
          · subst h9
            have : b.toNat % 128 ≤ 1 := by omega
            have : b.toNat % 128 * 2 ^ (7 * 9) ≤ 1 * 2 ^ (7 * 9) := Nat.mul_le_mul_right _ this
            have : n < 2 ^ (7 * 9) := hn
            omega
          · have := pow_step (b := b.toNat) hn
            have : 2 ^ (7 * (i + 1)) ≤ 2 ^ 63 := Nat.pow_le_pow_right (by omega) (by omega)
            omega
/-- Behind a good number stands a place in the text. -/
theorem getV_ok {s : ByteArray} {k : Nat} (hk : k ≤ s.size) (h : (getV s k).2.2 = 0) : (getV s k).1 < 2 ^ 64 ∧ ∃ j : Nat, (getV s k).2.1 = j ∧ k < j ∧ j ≤ s.size := by
  rcases hG : getGo (s.data.toList.drop k) 0 0 with ⟨n, j, e⟩
  have H := getV_of hk hG
  have K := getGo_ok (s.data.toList.drop k) 0 0 (by omega) (by omega)
  rw [hG] at K
  rw [H] at h ⊢
  split at h
  · rename_i he
    have := K he
    simp only [List.length_drop, Array.length_toList, ByteArray.size_data] at this
    rw [if_pos he]
    exact ⟨this.1, k + j, by simp, by omega, by omega⟩
  · rename_i he
    exact absurd h he
def takeV (s : ByteArray) (k m : Int) : ByteArray × Int × Int :=
  if (getV s k).2.2 ≠ 0 then (⟨#[]⟩, 0, (getV s k).2.2) else if m < 0 ∨ m < (getV s k).1 then (⟨#[]⟩, 0, 3) else
  if (s.size : Int) - (getV s k).2.1 < (getV s k).1 then (⟨#[]⟩, 0, 2) else (s.extract (getV s k).2.1.toNat ((getV s k).2.1.toNat + (getV s k).1), (getV s k).2.1 + (getV s k).1, 0)
set_option maxHeartbeats 1000000 in
set_option maxRecDepth 100000 in
theorem varint_Take (s : ByteArray) (k : Nat) (m : Int) (w : World) (hk : k ≤ s.size) (hs : s.size ≤ 9223372036854775000) (hm : m ≤ 9223372036854775000) (hm' : -9223372036854775000 ≤ m) :
    Calls Try.prog 102 #[.string s, .int .i64 k, .int .i64 m] w fun e w' => e = .returned (.tuple #[.string (takeV s k m).1, .int .i64 (takeV s k m).2.1, .int .i64 (takeV s k m).2.2]) ∧ w = w' := by
  have hG := varint_Get_at s k w hk hs
  have hok := Lib.hid (@getV_ok s k hk)
  obtain ⟨r, hr⟩ : ∃ r, takeV s k m = r := ⟨_, rfl⟩
  rw [hr]
  unfold takeV at hr
  generalize getV s k = g at hG hok hr
  obtain ⟨n, j, e⟩ := g
  have HR := Lib.hid hr
  clear hr
  by_cases he : e = 0
  · obtain ⟨h64, j', hj, hkj, hjs⟩ := hok.out he
    simp only [] at hj h64 hG
    subst he hj
    have h64' : n < 18446744073709551616 := h64
    clear h64
    by_cases hm0 : m < 0
    · have q0 : decide (m < 0) = true := by simp [hm0]
      go_enter Try.func102, Try.ntmps102
      go_wp2_with (go_at_call 68; refine hG.mono ?_; rintro e w' ⟨rfl, rfl⟩)
      go_ret3
      have hr := HR.out
      rw [if_neg (by simp), if_pos (Or.inl hm0)] at hr
      subst hr
      exact ⟨rfl, rfl⟩
    · by_cases hmn : m < n
      · have q0 : decide (m < 0) = false := by simp; omega
        go_enter Try.func102, Try.ntmps102
        go_wp2_with (go_at_call 68; refine hG.mono ?_; rintro e w' ⟨rfl, rfl⟩)
        go_ret3
        have hr := HR.out
        rw [if_neg (by simp), if_pos (Or.inr hmn)] at hr
        subst hr
        exact ⟨rfl, rfl⟩
      · by_cases hsn : (s.size : Int) - j' < n
        · have q0 : decide (m < 0) = false := by simp; omega
          go_enter Try.func102, Try.ntmps102
          go_wp2_with (go_at_call 68; refine hG.mono ?_; rintro e w' ⟨rfl, rfl⟩)
          go_ret3
          have hr := HR.out
          rw [if_neg (by simp), if_neg (by omega), if_pos hsn] at hr
          subst hr
          exact ⟨rfl, rfl⟩
        · have q0 : decide (m < 0) = false := by simp; omega
          go_enter Try.func102, Try.ntmps102
          go_wp2_with (go_at_call 68; refine hG.mono ?_; rintro e w' ⟨rfl, rfl⟩)
          go_ret3
          have hr := HR.out
          rw [if_neg (by simp), if_neg (by omega), if_neg (by omega), Int.toNat_natCast] at hr
          subst hr
          exact ⟨rfl, rfl⟩
  · have q0 : (e != 0) = true := by simp [he]
    go_enter Try.func102, Try.ntmps102
    go_wp2_with (go_at_call 68; refine hG.mono ?_; rintro e w' ⟨rfl, rfl⟩)
    go_ret3
    have hr := HR.out
    rw [if_pos he] at hr
    subst hr
    exact ⟨rfl, rfl⟩
theorem varint_Text (s : ByteArray) (w : World) (hs : s.size ≤ 9223372036854775000) :
    Calls Try.prog 101 #[.string s] w fun e w' => e = .returned (.string (⟨(putL s.size).toArray⟩ ++ s)) ∧ Below w.heap.size w w' := by
  have hl := putL_ten (n := s.size) (by omega)
  go_enter Try.func101, Try.ntmps101
  go_wp2_with (go_at_call 64; refine (varint_Put s.size _ (by omega)).mono ?_; rintro e w' ⟨rfl, hb⟩)
  go_ret
  exact ⟨rfl, hb⟩
end Go.Proofs.Ytialmfbjkegjoaa
