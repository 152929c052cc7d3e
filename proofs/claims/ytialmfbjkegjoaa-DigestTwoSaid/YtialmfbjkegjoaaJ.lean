/- Contracts of ident.Put, ident.Take. -/
import Derived.Test.YtialmfbjkegjoaaI2
set_option linter.unusedVariables false
set_option linter.unusedSimpArgs false
namespace Go.Proofs.Ytialmfbjkegjoaa
open Go.RowKit

def textV (s : ByteArray) : ByteArray := ⟨(putL s.size).toArray⟩ ++ s
def putI (s : ByteArray) : ByteArray := if isB s then textV s else ⟨#[]⟩
set_option maxHeartbeats 1000000 in
set_option maxRecDepth 100000 in
theorem ident_Put (s : ByteArray) (w : World) (hs : s.size ≤ 9223372036854775000) :
    Calls Try.prog 65 #[.string s] w fun e w' => e = .returned (.tuple #[.string (putI s), .bool (isB s)]) ∧ Below w.heap.size w w' := by
  unfold putI
  have hI := fun w => ident_Is s w (by omega)
  have hT := fun w => varint_Text s w hs
  by_cases h : isB s = true
  · rw [h] at hI
    rw [if_pos h, h]
    go_enter Try.func65, Try.ntmps65
    go_wp2_with (first | (go_at_call 42; refine (hI _).mono ?_; rintro e w1 ⟨rfl, hb1⟩) | (go_at_call 101; refine (hT _).mono ?_; rintro e w2 ⟨rfl, hb2⟩))
    go_ret2
    exact ⟨rfl, hb1.trans (hb2.mono hb1.size)⟩
  · have h : isB s = false := by simpa using h
    rw [h] at hI
    rw [if_neg (by simp [h]), h]
    go_enter Try.func65, Try.ntmps65
    go_wp2_with (first | (go_at_call 42; refine (hI _).mono ?_; rintro e w1 ⟨rfl, hb1⟩))
    go_ret2
    exact ⟨rfl, hb1⟩
def takeI (s : ByteArray) (k : Int) : ByteArray × Int × Int :=
  if (takeV s k 16).2.2 ≠ 0 then (⟨#[]⟩, 0, (takeV s k 16).2.2) else if isB (takeV s k 16).1 then takeV s k 16 else (⟨#[]⟩, 0, 3)
set_option maxHeartbeats 1000000 in
set_option maxRecDepth 100000 in
theorem ident_Take (s : ByteArray) (k : Nat) (w : World) (hk : k ≤ s.size) (hs : s.size ≤ 9223372036854775000) :
    Calls Try.prog 69 #[.string s, .int .i64 k] w fun e w' => e = .returned (.tuple #[.string (takeI s k).1, .int .i64 (takeI s k).2.1, .int .i64 (takeI s k).2.2]) ∧ Below w.heap.size w w' := by
  have hT := varint_Take s k 16 w hk hs (by omega) (by omega)
  obtain ⟨r, hr⟩ : ∃ r, takeI s k = r := ⟨_, rfl⟩
  rw [hr]
  unfold takeI at hr
  have hz : (takeV s k 16).1.size ≤ s.size := by
    unfold takeV
    split
    · exact Nat.zero_le _
    · split
      · exact Nat.zero_le _
      · split
        · exact Nat.zero_le _
        · simp only [ByteArray.size_extract]
          omega
  generalize takeV s k 16 = g at hT hr hz
  obtain ⟨t, to, e⟩ := g
  have HR := Lib.hid hr
  clear hr
  have hI := fun w => ident_Is t w (by simp only [] at hz; omega)
  have HZ := Lib.hid hz
  clear hz
  by_cases he : e = 0
  · subst he
    by_cases h : isB t = true
    · rw [h] at hI
      go_enter Try.func69, Try.ntmps69
      go_wp2_with (first | (go_at_call 42; refine (hI _).mono ?_; rintro e w1 ⟨rfl, hb1⟩) | (go_at_call 102; refine hT.mono ?_; rintro e w2 ⟨rfl, rfl⟩))
      go_ret3
      have hr := HR.out
      rw [if_neg (by simp), if_pos h] at hr
      subst hr
      exact ⟨rfl, hb1⟩
    · have h : isB t = false := by simpa using h
      rw [h] at hI
      go_enter Try.func69, Try.ntmps69
      go_wp2_with (first | (go_at_call 42; refine (hI _).mono ?_; rintro e w1 ⟨rfl, hb1⟩) | (go_at_call 102; refine hT.mono ?_; rintro e w2 ⟨rfl, rfl⟩))
      go_ret3
      have hr := HR.out
      rw [if_neg (by simp), if_neg (by simp [h])] at hr
      subst hr
      exact ⟨rfl, hb1⟩
  · have q0 : (e != 0) = true := by simp [he]
    go_enter Try.func69, Try.ntmps69
    go_wp2_with (first | (go_at_call 42; refine (hI _).mono ?_; rintro e w1 ⟨rfl, hb1⟩) | (go_at_call 102; refine hT.mono ?_; rintro e w2 ⟨rfl, rfl⟩))
    go_ret3
    have hr := HR.out
    rw [if_pos he] at hr
    subst hr
    exact ⟨rfl, Below.refl _ _⟩
end Go.Proofs.Ytialmfbjkegjoaa
