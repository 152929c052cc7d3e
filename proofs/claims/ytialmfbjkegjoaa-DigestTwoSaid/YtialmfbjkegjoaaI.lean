/- Contracts of varint.Get, Take, Text. -/
import Derived.Test.YtialmfbjkegjoaaH
import Derived.Scope
import Derived.ScopeJumps
import Derived.WalkMore
set_option linter.unusedVariables false
set_option linter.unusedSimpArgs false
namespace Go.Proofs.Ytialmfbjkegjoaa
open Go.RowKit

/-- What stands from a place on, round i, n so far: the number, how many bytes, the error. -/
def getGo : List UInt8 → Nat → Nat → Nat × Nat × Int
  | [], _, _ => (0, 0, 2)
  | b :: r, i, n => if i = 9 ∧ 1 < b.toNat then (0, 0, 3) else
    if 128 ≤ b.toNat then getGo r (i + 1) (n + b.toNat % 128 * 2 ^ (7 * i)) else
    if b.toNat = 0 ∧ 0 < i then (0, 0, 3) else (n + b.toNat % 128 * 2 ^ (7 * i), i + 1, 0)
def getV (s : ByteArray) (k : Int) : Nat × Int × Int :=
  if k < 0 ∨ (s.size : Int) < k then (0, 0, 1) else match getGo (s.data.toList.drop k.toNat) 0 0 with
  | (n, j, e) => if e = 0 then (n, k + j, 0) else (0, 0, e)
theorem getV_of {s : ByteArray} {k n j : Nat} {e : Int} (hk : k ≤ s.size) (h : getGo (s.data.toList.drop k) 0 0 = (n, j, e)) :
    getV s k = if e = 0 then (n, (k : Int) + j, 0) else (0, 0, e) := by
  unfold getV
  rw [if_neg (by omega), Int.toNat_natCast, h]
theorem drop_cons {s : ByteArray} {m : Nat} (h : m < s.size) : s.data.toList.drop m = s[m] :: s.data.toList.drop (m + 1) := by
  rw [List.drop_eq_getElem_cons (by simpa using h)]
  rfl
theorem or_step (n i b : Nat) (hn : n < 2 ^ (7 * i)) (hi : i ≤ 9) (hb : b < 256) (h9 : i = 9 → b ≤ 1) :
    bits .or .u64 (n : Int) (IntKind.u64.wrap (IntKind.u64.wrap (bits .andNot .u8 (b : Int) 128) * 2 ^ (7 * i))) = ((n + b % 128 * 2 ^ (7 * i) : Nat) : Int) := by
  have e1 : bits .andNot .u8 (b : Int) 128 = ((b % 128 : Nat) : Int) := by
    have := u8_andNot_nat b 128 hb (by omega)
    rw [show ((128 : Nat) : Int) = 128 from rfl] at this
    rw [this]
    have := Nat.and_two_pow_sub_one_eq_mod b 7
    simp only [show 2 ^ 7 - 1 = 255 - 128 from rfl] at this
    rw [this]
  have hx : b % 128 * 2 ^ (7 * i) < 2 ^ 64 := by
    have : 2 ^ (7 * i) * (b % 128) < 2 ^ 64 := by
      by_cases h : i = 9
      · subst h
        have := h9 rfl
        have : b % 128 ≤ 1 := by omega
        calc _ ≤ 2 ^ (7 * 9) * 1 := Nat.mul_le_mul_left _ this
          _ < _ := by decide
      · calc _ ≤ 2 ^ (7 * 8) * (b % 128) := Nat.mul_le_mul_right _ (Nat.pow_le_pow_right (by omega) (by omega))
          _ ≤ 2 ^ (7 * 8) * 127 := Nat.mul_le_mul_left _ (by omega)
          _ < _ := by decide
    rw [Nat.mul_comm]
    exact this
  have hn64 : n < 2 ^ 64 := Nat.lt_of_lt_of_le hn (Nat.pow_le_pow_right (by omega) (by omega))
  have e2 : IntKind.u64.wrap ((b % 128 : Nat) : Int) = ((b % 128 : Nat) : Int) := by
    simp only [IntKind.wrap, IntKind.bits, IntKind.signed, Bool.false_and, Bool.false_eq_true, if_false]
    omega
  have e3 : IntKind.u64.wrap (((b % 128 : Nat) : Int) * 2 ^ (7 * i)) = ((b % 128 * 2 ^ (7 * i) : Nat) : Int) := by
    have : ((b % 128 : Nat) : Int) * 2 ^ (7 * i) = ((b % 128 * 2 ^ (7 * i) : Nat) : Int) := by push_cast; rfl
    rw [this]
    generalize b % 128 * 2 ^ (7 * i) = z at hx ⊢
    simp only [IntKind.wrap, IntKind.bits, IntKind.signed, Bool.false_and, Bool.false_eq_true, if_false]
    omega
  rw [e1, e2, e3, u64_or_nat _ _ hn64 hx]
  have := Nat.two_pow_add_eq_or_of_lt hn (b % 128)
  rw [Nat.or_comm, Nat.mul_comm (b % 128), ← this, Nat.add_comm]
def intOf' : Value → Int | .int _ q => q | _ => 0
theorem tup3 {a b a' b' : Int} {c : Value} (h1 : a = a') (h2 : b = b') : Ending.returned (.tuple #[.int .u64 a, .int .i64 b, c]) = .returned (.tuple #[.int .u64 a', .int .i64 b', c]) := by rw [h1, h2]
theorem pow_step {n i b : Nat} (hn : n < 2 ^ (7 * i)) : n + b % 128 * 2 ^ (7 * i) < 2 ^ (7 * (i + 1)) := by
  have e : 2 ^ (7 * (i + 1)) = 128 * 2 ^ (7 * i) := by rw [show 7 * (i + 1) = 7 * i + 7 by omega, Nat.pow_add]; omega
  have : b % 128 * 2 ^ (7 * i) ≤ 127 * 2 ^ (7 * i) := Nat.mul_le_mul_right _ (by omega)
  omega
set_option maxHeartbeats 1000000 in
set_option maxRecDepth 100000 in
theorem varint_Get_at (s : ByteArray) (k : Nat) (w : World) (hk : k ≤ s.size) (hs : s.size ≤ 9223372036854775000) :
    Calls Try.prog 68 #[.string s, .int .i64 k] w fun e w' => e = .returned (.tuple #[.int .u64 (getV s k).1, .int .i64 (getV s k).2.1, .int .i64 (getV s k).2.2]) ∧ w = w' := by
  have h1 : ¬ ((k : Int) < 0) := by omega
  have h2 : ¬ ((s.size : Int) < k) := by omega
  obtain ⟨G, hG⟩ : ∃ G, getGo (s.data.toList.drop k) 0 0 = G := ⟨_, rfl⟩
  have HG := Lib.hid hG
  clear hG
  have d1 : decide ((k : Int) < 0) = false := by simp [h1]
  have d2 : decide (s.size < k) = false := by simp; omega
  go_enter Try.func68, Try.ntmps68
  go_wp2
  refine wp_scope_jumps 0 (fun a' w' => w = w' ∧ ∃ (n i : Nat) (u3 u4 u5 u6 u9 u10 u11 u12 u13 u14 u15 u16 u17 u18 u19 u20 u21 u22 u23 u24 u25 u26 u27 u28 u29 u30 u31 u32 u33 u34 u35 u36 u37 u38 u39 u40 u41 u42 u43 u44 u45 u46 u47 u48 u49 u50 u51 u52 u53 u54 u55 u56 : Value), a' = { tmps := #[.string s, .int .i64 (k : Int), undef, u3, u4, u5, u6, .int .u64 (n : Int), .int .i64 (i : Int), u9, u10, u11, u12, u13, u14, u15, u16, u17, u18, u19, u20, u21, u22, u23, u24, u25, u26, u27, u28, u29, u30, u31, u32, u33, u34, u35, u36, u37, u38, u39, u40, u41, u42, u43, u44, u45, u46, u47, u48, u49, u50, u51, u52, u53, u54, u55, u56], defers := [] } ∧ i ≤ 9 ∧ n < 2 ^ (7 * i) ∧ k + i ≤ s.size ∧ getGo (s.data.toList.drop (k + i)) i n = G) (fun a' _ => 10 - (intOf' (a'.tmps.getD 8 undef)).toNat) rfl ?_ ?_
  · go_wp2
    go_step3
    have hg : getGo (s.data.toList.drop k) 0 0 = G := HG.out
    by_cases he : k = s.size
    · have q1 : ((k : Int) + 0 == (s.size : Int)) = true := by simp [he]
      have q2 : ((k : Int) == (s.size : Int)) = true := by simp [he]
      go_wp2
      simp only [Exit.jump]
      go_ret3
      rw [List.drop_eq_nil_of_le (by simp; omega)] at hg
      rw [getV_of hk (HG.out.trans hg.symm)]
      exact ⟨rfl, rfl⟩
    · have q1 : ((k : Int) + 0 == (s.size : Int)) = false := by simp; omega
      have q2 : ((k : Int) == (s.size : Int)) = false := by simp; omega
      have q3 : k < s.size := by omega
      have ho := or_step 0 0 s[k].toNat (by decide) (by omega) s[k].toNat_lt (by omega)
      rw [show ((7 * 0 : Nat)) = 0 from rfl, Int.pow_zero, Int.mul_one, Nat.pow_zero, Nat.mul_one, Nat.zero_add] at ho
      go_wp2
      · go_step3; rw [show bits .or .u64 0 _ = _ from ho]; rw [drop_cons q3, getGo, if_neg (by omega), if_pos (by omega), Nat.mul_zero, Nat.pow_zero, Nat.mul_one, Nat.zero_add, Nat.zero_add] at hg; refine ⟨rfl, rfl, s[k].toNat % 128, 1, _, _, _, _, _, _, _, _, _, _, _, _, _, _, _, _, _, _, _, _, _, _, _, _, _, _, _, _, _, _, _, _, _, _, _, _, _, _, _, _, _, _, _, _, _, _, _, _, _, _, _, _, rfl, by omega, by omega, by omega, hg⟩
      · simp only [Exit.jump]; go_ret3; rw [drop_cons q3, getGo, if_neg (by omega), if_neg (by omega), if_neg (by omega)] at hg; rw [getV_of hk (HG.out.trans hg.symm)]; refine ⟨tup3 (by simp only [if_true]; rename_i hb0; rw [hb0] at ho ⊢; exact ho) (by simp only [if_true]; omega), rfl⟩
      · simp only [Exit.jump]; go_ret3; rw [drop_cons q3, getGo, if_neg (by omega), if_neg (by omega), if_neg (by omega)] at hg; rw [getV_of hk (HG.out.trans hg.symm)]; refine ⟨tup3 (by simp only [if_true]; rw [Nat.mul_zero, Nat.pow_zero, Nat.mul_one, Nat.zero_add]; exact ho) (by simp only [if_true]; omega), rfl⟩
  · rintro a' w' ⟨rfl, n, i, u3, u4, u5, u6, u9, u10, u11, u12, u13, u14, u15, u16, u17, u18, u19, u20, u21, u22, u23, u24, u25, u26, u27, u28, u29, u30, u31, u32, u33, u34, u35, u36, u37, u38, u39, u40, u41, u42, u43, u44, u45, u46, u47, u48, u49, u50, u51, u52, u53, u54, u55, u56, rfl, hi, hn, hki, hg⟩
    by_cases he : k + i = s.size
    · have q1 : ((k : Int) + i == (s.size : Int)) = true := by simp; omega
      go_wp2
      simp only [Exit.jump]
      go_ret3
      rw [List.drop_eq_nil_of_le (by simp; omega)] at hg
      rw [getV_of hk (HG.out.trans hg.symm)]
      exact ⟨rfl, rfl⟩
    · have q1 : ((k : Int) + i == (s.size : Int)) = false := by simp; omega
      have q3 : k + i < s.size := by omega
      go_wp2
      · simp only [Exit.jump]; go_ret3; rw [drop_cons q3, getGo, if_pos (by omega)] at hg; rw [getV_of hk (HG.out.trans hg.symm)]; exact ⟨rfl, rfl⟩
      · simp only [Exit.jump]; go_ret3; rw [drop_cons q3, getGo, if_neg (by omega), if_neg (by omega), if_pos (by omega)] at hg; rw [getV_of hk (HG.out.trans hg.symm)]; exact ⟨rfl, rfl⟩
      · simp only [Exit.jump]; go_ret3; obtain rfl : i = 9 := (by omega); rw [drop_cons q3, getGo, if_neg (by omega), if_neg (by omega), if_neg (by omega)] at hg; rw [getV_of hk (HG.out.trans hg.symm)]; have ho := or_step n 9 s[k + 9].toNat hn hi s[k + 9].toNat_lt (by omega); refine ⟨tup3 ho (by simp only [if_true]; omega), rfl⟩
      · go_step3; have ho := or_step n i s[k + i].toNat hn hi s[k + i].toNat_lt (by omega); rw [ho]; rw [drop_cons q3, getGo, if_neg (by omega), if_pos (by omega)] at hg; refine ⟨rfl, ⟨rfl, n + s[k + i].toNat % 128 * 2 ^ (7 * i), i + 1, _, _, _, _, _, _, _, _, _, _, _, _, _, _, _, _, _, _, _, _, _, _, _, _, _, _, _, _, _, _, _, _, _, _, _, _, _, _, _, _, _, _, _, _, _, _, _, _, _, _, _, _, rfl, by omega, pow_step hn, by omega, hg⟩, ?_⟩; simp [intOf']; omega
      · simp only [Exit.jump]; go_ret3; rw [drop_cons q3, getGo, if_neg (by omega), if_neg (by omega), if_pos (by omega)] at hg; rw [getV_of hk (HG.out.trans hg.symm)]; exact ⟨rfl, rfl⟩
      · simp only [Exit.jump]; go_ret3; rw [drop_cons q3, getGo, if_neg (by omega), if_neg (by omega), if_neg (by omega)] at hg; rw [getV_of hk (HG.out.trans hg.symm)]; have ho := or_step n i s[k + i].toNat hn hi s[k + i].toNat_lt (by omega); refine ⟨tup3 (by simp only [if_true]; rename_i hb0 _; rw [hb0] at ho ⊢; exact ho) (by simp only [if_true]; omega), rfl⟩
      · simp only [Exit.jump]; go_ret3; rw [drop_cons q3, getGo, if_neg (by omega), if_neg (by omega), if_neg (by omega)] at hg; rw [getV_of hk (HG.out.trans hg.symm)]; have ho := or_step n i s[k + i].toNat hn hi s[k + i].toNat_lt (by omega); refine ⟨tup3 ho (by simp only [if_true]; omega), rfl⟩
end Go.Proofs.Ytialmfbjkegjoaa
