/- Contracts of the references of layers 3 and 4, and of rollcallref05.May. -/
import Derived.Test.YtialmfbjkegjoaaC
set_option linter.unusedVariables false
set_option linter.unusedSimpArgs false
namespace Go.Proofs.Ytialmfbjkegjoaa
open Go.RowKit

/-- A byte of a name, wherever it stands. -/
def clsI (c : Int) : Bool := lettI c || ((decide (48 ≤ c) && decide (c ≤ 57)) || decide (c = 45))
theorem okI_cls (j : Nat) (c : Int) : okI j c = (clsI c && (j != 0 || lettI c)) := by
  unfold okI clsI
  cases lettI c <;> cases h : (j != 0) <;> simp_all
theorem cls_true {c : Int} (h : 97 ≤ c ∧ c ≤ 122 ∨ 48 ≤ c ∧ c ≤ 57 ∨ c = 45) : clsI c = true := by
  unfold clsI lettI
  simp only [Bool.or_eq_true, Bool.and_eq_true, decide_eq_true_eq]
  exact h
theorem cls_false {c : Int} (h : ¬ (97 ≤ c ∧ c ≤ 122 ∨ 48 ≤ c ∧ c ≤ 57 ∨ c = 45)) : clsI c = false := by
  rw [Bool.eq_false_iff]
  intro hc
  unfold clsI lettI at hc
  simp only [Bool.or_eq_true, Bool.and_eq_true, decide_eq_true_eq] at hc
  exact h hc
theorem is_small (s : ByteArray) (h : ¬ 1 ≤ s.size) : false = isB s := by unfold isB; rw [decide_eq_false (by omega : ¬ s.size ≠ 0)]; simp
theorem is_big (s : ByteArray) (h : ¬ s.size ≤ 16) : false = isB s := by unfold isB; rw [decide_eq_false h]; simp
theorem is_head (s : ByteArray) (h0 : 0 < s.size) (h : ¬ (97 ≤ ((s[0]'h0).toNat : Int) ∧ ((s[0]'h0).toNat : Int) ≤ 122)) : false = isB s := by
  refine (isB_bad s 0 h0 ?_).symm
  rw [okI_cls]
  have : lettI (s[0]'h0).toNat = false := by rw [Bool.eq_false_iff]; intro hc; unfold lettI at hc; exact h (by simpa using hc)
  simp [this]
theorem is_cls (s : ByteArray) (k : Nat) (hk : k < s.size) (h : clsI (s[k]'hk).toNat = false) : false = isB s := (isB_bad s k hk (by rw [okI_cls, h]; rfl)).symm
theorem isTo_cls (s : ByteArray) (k : Nat) (h0 : 0 < s.size) (hl : lettI (s[0]'h0).toNat = true) (hk : k < s.size) (H : isTo s k = true) (h : clsI (s[k]'hk).toNat = true) : isTo s (k + 1) = true := by
  refine isTo_next s k hk H ?_
  rw [okI_cls, h]
  rcases k with _ | k
  · simp [hl]
  · simp
theorem is_end (s : ByteArray) (k : Nat) (h1 : 1 ≤ s.size) (h2 : s.size ≤ 16) (hk : k ≤ s.size) (hlt : ¬ k < s.size) (H : isTo s k = true) : true = isB s := by
  obtain rfl : k = s.size := by omega
  unfold isB
  rw [H, decide_eq_true h2, decide_eq_true (by omega : s.size ≠ 0)]
  rfl
set_option maxHeartbeats 4000000 in
set_option maxRecDepth 100000 in
theorem ref03_Is (s : ByteArray) (w : World) (hs : s.size ≤ 9223372036854775807) :
    Calls Try.prog 24 #[.string s] w fun e w' => e = .returned (.bool (isB s)) ∧ w = w' := by
  by_cases h1 : 1 ≤ s.size
  · by_cases h2 : s.size ≤ 16
    · have h0 : 0 < s.size := h1
      by_cases hl : 97 ≤ ((s[0]'h0).toNat : Int) ∧ ((s[0]'h0).toNat : Int) ≤ 122
      · have HL : Hid (lettI (s[0]'h0).toNat = true) := by unfold lettI; simpa [Hid] using hl
        obtain ⟨hl1, hl2⟩ := hl
        go_enter Try.func24, Try.ntmps24
        go_wp2
        go_loop [3] (fun i => ∃ k : Nat, k ≤ s.size ∧ i = .int .i64 k ∧ Hid (isTo s k = true)) (fun i => s.size - (intOf i).toNat)
        case atStart => exact ⟨0, Nat.zero_le _, rfl, rfl⟩
        case round =>
          obtain ⟨k, hk, rfl, Hk⟩ := hrel
          by_cases hlt : k < s.size
          · have hy := Lib.hid (isTo_cls s k h0 HL.out hlt Hk.out)
            have hn := Lib.hid (is_cls s k hlt)
            by_cases h45 : ((s[k]'hlt).toNat : Int) = 45
            · obtain ⟨hb1, hb2⟩ : (((s[k]'hlt).toNat : Int) != 45) = false ∧ Hid (((s[k]'hlt).toNat : Int) = 45) := ⟨bne_eq_false_iff_eq.2 h45, h45⟩
              clear h45
              go_wp2
              all_goals exact ⟨⟨k + 1, by omega, by go_num, hy.out (cls_true (.inr (.inr hb2.out)))⟩, by simp [intOf]; omega⟩
            · have hb1 : (((s[k]'hlt).toNat : Int) != 45) = true := bne_iff_ne.2 h45
              have HB := Lib.hid h45
              clear h45
              go_wp2
              all_goals first
                | (go_ret; exact ⟨ret_bool (hn.out (cls_false (by have := HB.out; omega))), rfl⟩)
                | exact ⟨⟨k + 1, by omega, by go_num, hy.out (cls_true (by omega))⟩, by simp [intOf]; omega⟩
          · go_wp2
            go_ret
            exact ⟨ret_bool (is_end s k h1 h2 hk hlt Hk.out), rfl⟩
      · have hh := Lib.hid (is_head s h0 hl)
        have HL := Lib.hid hl
        clear hl
        go_enter Try.func24, Try.ntmps24
        go_wp2
        all_goals first
          | (go_ret; exact ⟨ret_bool hh.out, rfl⟩)
          | (exfalso; have := HL.out; omega)
    · go_enter Try.func24, Try.ntmps24
      go_wp2
      go_ret
      exact ⟨ret_bool (is_big s h2), rfl⟩
  · go_enter Try.func24, Try.ntmps24
    go_wp2
    go_ret
    exact ⟨ret_bool (is_small s h1), rfl⟩
end Go.Proofs.Ytialmfbjkegjoaa
