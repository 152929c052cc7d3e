/- Contracts of value.Put. -/
import Derived.Test.YtialmfbjkegjoaaJ
import Derived.Test.YtialmfbjkegjoaaR
set_option linter.unusedVariables false
set_option linter.unusedSimpArgs false
namespace Go.Proofs.Ytialmfbjkegjoaa
open Go.RowKit

theorem tup2 {u v u' v' : Value} (h1 : u = u') (h2 : v = v') : Ending.returned (.tuple #[u, v]) = .returned (.tuple #[u', v']) := by rw [h1, h2]
def headV (x : PV) : List UInt8 := [UInt8.ofNat x.show_.toNat, UInt8.ofNat (x.prio + 128).toNat]
def headS (x : PV) : ByteArray := ⟨(headV x).toArray⟩
def putS (n : Nat) : ByteArray := ⟨(putL n).toArray⟩
theorem headS_size (x : PV) : (headS x).size = 2 := rfl
theorem putS_size {n : Nat} (h : n < 18446744073709551616) : (putS n).size ≤ 10 := putL_ten h
theorem textV_size {d : ByteArray} (h : d.size < 18446744073709551616) : (textV d).size ≤ 10 + d.size := by
  unfold textV
  rw [ByteArray.size_append]
  have := putS_size h
  unfold putS at this
  omega
def putVv (x : PV) : ByteArray := if vokB x then (headS x ++ putS x.since.toNat) ++ textV x.status else ⟨#[]⟩
theorem two8 (w : World) (T : TypeId) (v v' : Int) (b b' : UInt8) (h : v = b.toNat) (h' : v' = b'.toNat) : RdS enc8 1 (w.alloc (.cells #[.int .u8 v, .int .u8 v'] T)) (some ⟨w.heap.size, 0, none⟩) [b, b'] := by
  subst h
  subst h'
  refine ⟨by simp, fun i y hy => ⟨w.heap.size, 0, rfl, fun j u hu => ?_⟩⟩
  rcases j with _ | j
  · rcases i with _ | _ | i
    · simp at hy
      subst hy
      simp [enc8] at hu
      subst hu
      simp
    · simp at hy
      subst hy
      simp [enc8] at hu
      subst hu
      simp
    · simp at hy
  · simp [enc8] at hu
set_option maxHeartbeats 1000000 in
set_option maxRecDepth 100000 in
theorem value_Put (a b c : Int) (d : ByteArray) (w : World) (hd : d.size ≤ 9223372036854775000) :
    Calls Try.prog 66 #[.agg #[.int .i64 a, .int .i64 b, .int .i64 c, .string d]] w fun e w' => e = .returned (.tuple #[.string (putVv ⟨a, b, c, d⟩), .bool (vokB ⟨a, b, c, d⟩)]) ∧ Below w.heap.size w w' := by
  unfold putVv
  have hM := fun w => value_May a b c d w (by omega)
  have HB0 : Hid (Below w.heap.size w (w.alloc (.cells #[.int .i64 a, .int .i64 b, .int .i64 c, .string d] 24))) := ((Below.refl w.heap.size w).alloc (Nat.le_refl _) (.cells #[.int .i64 a, .int .i64 b, .int .i64 c, .string d] 24))
  by_cases h : vokB ⟨a, b, c, d⟩ = true
  · rw [h] at hM
    rw [if_pos h, h]
    have hT := fun w => varint_Text d w hd
    obtain ⟨r1, r2, r3, r4, r5, r6, r7⟩ : vrange ⟨a, b, c, d⟩ := by
      unfold vokB at h
      simp only [Bool.and_eq_true, decide_eq_true_eq] at h
      exact h.1
    dsimp only at r1 r2 r3 r4 r5 r6 r7
    have hP := fun w => varint_Put c.toNat w (by omega)
    obtain ⟨c0, hc⟩ : ∃ c0 : Nat, c = c0 := ⟨c.toNat, by omega⟩
    subst hc
    rw [Int.toNat_natCast] at hP ⊢
    have HBD := Lib.hid (show d.size ≤ 32 from r7)
    go_enter Try.func66, Try.ntmps66
    obtain ⟨W0, hW0⟩ : ∃ W0, W0 = w.alloc (.cells #[.int .i64 a, .int .i64 b, .int .i64 (c0 : Nat), .string d] 24) := ⟨_, rfl⟩
    have HW0 := Lib.hid hW0
    go_wp2_with (go_at_call 72; rw [← HW0.out]; refine (hM W0).mono ?_; rintro e w1 ⟨rfl, hb1⟩; have HB1 := Lib.hid hb1; clear hb1)
    have hcs : ∀ w2, Below w1.heap.size w1 w2 → w2.cell? ⟨w.heap.size, 0, none⟩ = some (.int .i64 a) ∧ w2.cell? ⟨w.heap.size, 1, none⟩ = some (.int .i64 b) ∧ w2.cell? ⟨w.heap.size, 2, none⟩ = some (.int .i64 (c0 : Nat)) ∧ w2.cell? ⟨w.heap.size, 3, none⟩ = some (.string d) := by
      intro w2 hb2
      have hb := HB1.out.trans (hb2.mono HB1.out.size)
      have hlt : w.heap.size < W0.heap.size := by rw [HW0.out]; simp
      refine ⟨?_, ?_, ?_, ?_⟩ <;> rw [hb.cell hlt, HW0.out] <;> simp
    refine wp_region_vals (fun x => { tmps := #[.agg #[.int .i64 a, .int .i64 b, .int .i64 (c0 : Nat), .string d], .pointer (some ⟨w.heap.size, 0, none⟩), x 18, x 19, .agg #[.int .i64 a, .int .i64 b, .int .i64 (c0 : Nat), .string d], .bool true, .bool false, x 0, x 1, x 2, x 3, x 4, x 5, x 6, x 7, x 8, x 9, x 10, x 11, x 12, x 13, x 14, x 15, x 16, x 17], defers := [] }) (fun i => if i = 18 then .string ⟨#[]⟩ else if i = 19 then .bool false else undef) [.is (.pointer (some ⟨w.heap.size, 0, none⟩)), .is (.int .i64 a), .is (.int .u8 a), .is (.pointer (some ⟨w.heap.size, 1, none⟩)), .is (.int .i64 b), .is (.int .i64 (b + 128)), .is (.int .u8 (b + 128)), .sl enc8 1 (headV ⟨a, b, c0, d⟩), .is (.string (headS ⟨a, b, c0, d⟩)), .is (.pointer (some ⟨w.heap.size, 2, none⟩)), .is (.int .i64 (c0 : Nat)), .is (.int .u64 (c0 : Nat)), .is (.string (putS c0)), .is (.string ((headS ⟨a, b, c0, d⟩) ++ (putS c0))), .is (.pointer (some ⟨w.heap.size, 3, none⟩)), .is (.string d), .is (.string (textV d)), .is (.string (((headS ⟨a, b, c0, d⟩) ++ (putS c0)) ++ textV d)), .is (.string (((headS ⟨a, b, c0, d⟩) ++ (putS c0)) ++ textV d)), .is (.bool true)] rfl (by kernel_rfl) ⟨fun _ _ => rfl, fun _ _ => rfl, fun _ _ => rfl, fun _ _ => rfl, fun _ _ => rfl, fun _ _ => rfl, fun _ _ => rfl, fun _ _ => rfl, fun _ _ => rfl, fun _ _ => rfl, fun _ _ => rfl, fun _ _ => rfl, fun _ _ => rfl, fun _ _ => rfl, fun _ _ => rfl, fun _ _ => rfl, fun _ _ => rfl, fun _ _ => rfl, fun _ _ => rfl, fun _ _ => rfl, trivial⟩ ⟨?_, ?_, ?_, ?_, ?_, ?_, ?_, ?_, ?_, ?_, ?_, ?_, ?_, ?_, ?_, ?_, ?_, ?_, ?_, ?_, trivial⟩ ?_
    · intro x w2 hb2 hd2 K hK
      go_wp2
      exact hK (.pointer (some ⟨w.heap.size, 0, none⟩)) _ rfl (Below.refl _ _)
    · intro x w2 hb2 hd2 K hK
      have h0 : x 0 = .pointer (some ⟨w.heap.size, 0, none⟩) := hd2 0 (by kernel_rfl)
      obtain ⟨e0, e1, e2, e3⟩ := hcs w2 hb2
      simp only [h0] at hK
      go_wp2
      try simp only [h0]
      exact hK (.int .i64 a) _ rfl (Below.refl _ _)
    · intro x w2 hb2 hd2 K hK
      have h1 : x 1 = .int .i64 a := hd2 1 (by kernel_rfl)
      simp only [h1] at hK
      go_wp2
      try simp only [h1]
      exact hK (.int .u8 a) _ rfl (Below.refl _ _)
    · intro x w2 hb2 hd2 K hK
      go_wp2
      exact hK (.pointer (some ⟨w.heap.size, 1, none⟩)) _ rfl (Below.refl _ _)
    · intro x w2 hb2 hd2 K hK
      have h3 : x 3 = .pointer (some ⟨w.heap.size, 1, none⟩) := hd2 3 (by kernel_rfl)
      obtain ⟨e0, e1, e2, e3⟩ := hcs w2 hb2
      simp only [h3] at hK
      go_wp2
      try simp only [h3]
      exact hK (.int .i64 b) _ rfl (Below.refl _ _)
    · intro x w2 hb2 hd2 K hK
      have h4 : x 4 = .int .i64 b := hd2 4 (by kernel_rfl)
      simp only [h4] at hK
      go_wp2
      try simp only [h4]
      exact hK (.int .i64 (b + 128)) _ rfl (Below.refl _ _)
    · intro x w2 hb2 hd2 K hK
      have h5 : x 5 = .int .i64 (b + 128) := hd2 5 (by kernel_rfl)
      simp only [h5] at hK
      go_wp2
      try simp only [h5]
      exact hK (.int .u8 (b + 128)) _ rfl (Below.refl _ _)
    · intro x w2 hb2 hd2 K hK
      have h2 : x 2 = .int .u8 a := hd2 2 (by kernel_rfl)
      have h6 : x 6 = .int .u8 (b + 128) := hd2 6 (by kernel_rfl)
      simp only [h2, h6] at hK
      go_wp2
      try simp only [h2, h6]
      refine hK (.slice (some ⟨w2.heap.size, 0, none⟩) 2 2) _ ⟨some ⟨w2.heap.size, 0, none⟩, 2, rfl, ?_⟩ ((Below.refl w2.heap.size w2).alloc (Nat.le_refl _) _)
      exact two8 _ _ _ _ _ _ (by simp; omega) (by simp; omega)
    · intro x w2 hb2 hd2 K hK
      obtain ⟨A, cp, h7, hr7⟩ : ∃ A c, x 7 = .slice A (headV ⟨a, b, c0, d⟩).length c ∧ RdS enc8 1 w2 A (headV ⟨a, b, c0, d⟩) := hd2 7 (by kernel_rfl)
      have hcv := conv_str (P := Try.prog) 119 9 5 Try.underlying119 Try.underlying5 Try.underlying9 hr7 cp
      simp only [h7] at hK
      go_wp2
      try simp only [h7]
      exact hK (.string (headS ⟨a, b, c0, d⟩)) _ rfl (Below.refl _ _)
    · intro x w2 hb2 hd2 K hK
      go_wp2
      exact hK (.pointer (some ⟨w.heap.size, 2, none⟩)) _ rfl (Below.refl _ _)
    · intro x w2 hb2 hd2 K hK
      have h9 : x 9 = .pointer (some ⟨w.heap.size, 2, none⟩) := hd2 9 (by kernel_rfl)
      obtain ⟨e0, e1, e2, e3⟩ := hcs w2 hb2
      simp only [h9] at hK
      go_wp2
      try simp only [h9]
      exact hK (.int .i64 (c0 : Nat)) _ rfl (Below.refl _ _)
    · intro x w2 hb2 hd2 K hK
      have h10 : x 10 = .int .i64 (c0 : Nat) := hd2 10 (by kernel_rfl)
      simp only [h10] at hK
      go_wp2
      try simp only [h10]
      exact hK (.int .u64 (c0 : Nat)) _ rfl (Below.refl _ _)
    · intro x w2 hb2 hd2 K hK
      have h11 : x 11 = .int .u64 (c0 : Nat) := hd2 11 (by kernel_rfl)
      simp only [h11] at hK
      go_wp2_with (go_at_call 64; refine (hP w2).mono ?_; rintro e w3 ⟨rfl, hb3⟩)
      try simp only [h11]
      exact hK (.string (putS c0)) _ rfl hb3
    · intro x w2 hb2 hd2 K hK
      have h8 : x 8 = .string (headS ⟨a, b, c0, d⟩) := hd2 8 (by kernel_rfl)
      have h12 : x 12 = .string (putS c0) := hd2 12 (by kernel_rfl)
      have hl := putS_size (n := c0) (by omega)
      have hl1 := headS_size ⟨a, b, c0, d⟩
      simp only [h8, h12] at hK
      go_wp2
      try simp only [h8, h12]
      exact hK (.string ((headS ⟨a, b, c0, d⟩) ++ (putS c0))) _ rfl (Below.refl _ _)
    · intro x w2 hb2 hd2 K hK
      go_wp2
      exact hK (.pointer (some ⟨w.heap.size, 3, none⟩)) _ rfl (Below.refl _ _)
    · intro x w2 hb2 hd2 K hK
      have h14 : x 14 = .pointer (some ⟨w.heap.size, 3, none⟩) := hd2 14 (by kernel_rfl)
      obtain ⟨e0, e1, e2, e3⟩ := hcs w2 hb2
      simp only [h14] at hK
      go_wp2
      try simp only [h14]
      exact hK (.string d) _ rfl (Below.refl _ _)
    · intro x w2 hb2 hd2 K hK
      have h15 : x 15 = .string d := hd2 15 (by kernel_rfl)
      simp only [h15] at hK
      go_wp2_with (go_at_call 101; refine (hT w2).mono ?_; rintro e w3 ⟨rfl, hb3⟩)
      try simp only [h15]
      exact hK (.string (textV d)) _ rfl hb3
    · intro x w2 hb2 hd2 K hK
      have h13 : x 13 = .string ((headS ⟨a, b, c0, d⟩) ++ (putS c0)) := hd2 13 (by kernel_rfl)
      have h16 : x 16 = .string (textV d) := hd2 16 (by kernel_rfl)
      have hl := putS_size (n := c0) (by omega)
      have hl1 := headS_size ⟨a, b, c0, d⟩
      have hl2 := textV_size (d := d) (by omega)
      simp only [h13, h16] at hK
      go_wp2
      try simp only [h13, h16]
      exact hK (.string (((headS ⟨a, b, c0, d⟩) ++ (putS c0)) ++ textV d)) _ rfl (Below.refl _ _)
    · intro x w2 hb2 hd2 K hK
      have h17 : x 17 = .string (((headS ⟨a, b, c0, d⟩) ++ (putS c0)) ++ textV d) := hd2 17 (by kernel_rfl)
      simp only [h17] at hK
      go_wp2
      try simp only [h17]
      exact hK (.string (((headS ⟨a, b, c0, d⟩) ++ (putS c0)) ++ textV d)) _ rfl (Below.refl _ _)
    · intro x w2 hb2 hd2 K hK
      go_wp2
      exact hK (.bool true) _ rfl (Below.refl _ _)
    · intro x w2 hb2 hx
      have h18 : x 18 = .string (((headS ⟨a, b, c0, d⟩) ++ (putS c0)) ++ textV d) := hx 18 (by simp)
      have h19 : x 19 = .bool true := hx 19 (by simp)
      go_wp2
      go_ret2
      refine ⟨tup2 h18 h19, HB0.out.trans ((HW0.out ▸ HB1.out.trans (hb2.mono HB1.out.size)).mono (by simp))⟩
  · have h : vokB ⟨a, b, c, d⟩ = false := by simpa using h
    rw [h] at hM
    rw [if_neg (by simp [h]), h]
    go_enter Try.func66, Try.ntmps66
    go_wp2_with (go_at_call 72; refine (hM _).mono ?_; rintro e w1 ⟨rfl, hb1⟩)
    go_ret2
    exact ⟨rfl, HB0.out.trans (hb1.mono (by simp))⟩
end Go.Proofs.Ytialmfbjkegjoaa
