/- Contracts of ident.letter, ident.Is. -/
import Derived.Test.YtialmfbjkegjoaaA
import Derived.Laws.RangeString
import Derived.Laws.RangeAny
import Derived.Lib.Hide
set_option linter.unusedVariables false
set_option linter.unusedSimpArgs false
namespace Go.Proofs.Ytialmfbjkegjoaa
open Go.RowKit

def lettI (c : Int) : Bool := decide (97 ≤ c) && decide (c ≤ 122)
theorem ident_letter (c : Int) (w : World) :
    Calls Try.prog 79 #[.int .i32 c] w fun e w' => e = .returned (.bool (lettI c)) ∧ w = w' := by
  go_enter Try.func79, Try.ntmps79
  go_wp2
  all_goals go_ret
  all_goals exact ⟨ret_bool (by unfold lettI; simp_all; try omega), rfl⟩

/-- May the byte c stand at place j of a name? -/
def okI (j : Nat) (c : Int) : Bool := lettI c || (j != 0 && ((decide (48 ≤ c) && decide (c ≤ 57)) || decide (c = 45)))
def okAt (s : ByteArray) (j : Nat) : Bool := match s.data.toList[j]? with | some c => okI j c.toNat | none => true
def isTo (s : ByteArray) (k : Nat) : Bool := (List.range k).all (okAt s)
def isB (s : ByteArray) : Bool := isTo s s.size && decide (s.size ≠ 0) && decide (s.size ≤ 16)
theorem okAt_at (s : ByteArray) (j : Nat) (h : j < s.size) : okAt s j = okI j (s[j]'h).toNat := by
  unfold okAt
  rw [List.getElem?_eq_getElem (by simpa using h)]
  rfl
theorem isTo_succ (s : ByteArray) (k : Nat) : isTo s (k + 1) = (isTo s k && okAt s k) := by simp [isTo, List.range_succ]
theorem isTo_false (s : ByteArray) (k n : Nat) (h : k < n) (hk : okAt s k = false) : isTo s n = false := by
  simp only [isTo, List.all_eq_false]
  exact ⟨k, by simpa using h, by simp [hk]⟩

theorem width_pos (s : ByteArray) (pos : Nat) (h : pos < s.size) : 1 ≤ (Utf8.decode s pos).2 := by
  by_cases ha : (s[pos]'h).toNat < 128
  · rw [decode_ascii s pos h ha]
    exact Nat.le_refl _
  · exact (decode_high s pos h (by omega)).2

theorem isTo_next (s : ByteArray) (pos : Nat) (hp : pos < s.size) (H : isTo s pos = true) (h : okI pos (s[pos]'hp).toNat = true) : isTo s (pos + 1) = true := by
  rw [isTo_succ, H, okAt_at s pos hp, h]
  rfl
theorem isB_bad (s : ByteArray) (pos : Nat) (hp : pos < s.size) (h : okI pos (s[pos]'hp).toNat = false) : isB s = false := by
  unfold isB
  rw [isTo_false s pos s.size hp (by rw [okAt_at s pos hp, h])]
  rfl
theorem okI_cases (pos : Nat) (c : Int) : (lettI c = true ∧ okI pos c = true) ∨ (lettI c = false ∧ ((pos : Int) == 0) = true ∧ okI pos c = false) ∨ (lettI c = false ∧ ((pos : Int) == 0) = false ∧ c < 48 ∧ (c != 45) = true ∧ okI pos c = false) ∨ (lettI c = false ∧ ((pos : Int) == 0) = false ∧ c < 48 ∧ (c != 45) = false ∧ okI pos c = true) ∨ (lettI c = false ∧ ((pos : Int) == 0) = false ∧ 48 ≤ c ∧ c ≤ 57 ∧ okI pos c = true) ∨ (lettI c = false ∧ ((pos : Int) == 0) = false ∧ 48 ≤ c ∧ 57 < c ∧ (c != 45) = true ∧ okI pos c = false) := by
  unfold okI
  cases h : lettI c <;> by_cases h0 : pos = 0 <;> by_cases h1 : c < 48 <;> by_cases h2 : c ≤ 57 <;> by_cases h3 : c = 45 <;> simp_all <;> omega

theorem lettI_high (c : Int) (h : 128 ≤ c) : lettI c = false := by unfold lettI; simp; omega
theorem okI_high (pos : Nat) (c : Int) (h : 128 ≤ c) : okI pos c = false := by unfold okI; rw [lettI_high c h]; simp; omega
/-- A round's rune, and the place behind it. -/
theorem Is_next (s : ByteArray) (pos : Nat) (hp : pos < s.size) (H : isTo s pos = true) : ∃ (r : Int) (p' : Nat), (∀ (P : Program) (w : World) (ty : TypeId), (Instr.next (.pointer (some ⟨w.heap.size, 0, none⟩)) true ty).run P (w.iter s pos) =
      .ok (.tuple #[.bool true, .int .i64 pos, .int .i32 r]) (w.iter s p')) ∧ (okI pos r = true → isTo s p' = true ∧ p' ≤ s.size ∧ pos < p') ∧ (okI pos r = false → isB s = false) := by
  by_cases ha : (s[pos]'hp).toNat < 128
  · exact ⟨_, _, fun P w ty => run_next_ascii w s pos ty hp ha, fun h => ⟨isTo_next s pos hp H h, by omega, by omega⟩, isB_bad s pos hp⟩
  · have hh := decode_high s pos hp (by omega)
    have ho : okI pos (((Utf8.decode s pos).1 : Nat) : Int) = false := okI_high _ _ (by omega)
    exact ⟨_, _, fun P w ty => run_next_any w s pos ty hp, fun h => by rw [ho] at h; exact absurd h (by decide), fun _ => isB_bad s pos hp (okI_high _ _ (by omega))⟩

theorem isB_end (s : ByteArray) (H : isTo s s.size = true) : (s.toList = [] → false = isB s) ∧ (¬ s.toList = [] → (!s.toList.isEmpty && decide ((s.size : Int) ≤ 16)) = isB s) := by
  have hz : s.toList.length = s.size := by rw [ByteArray.toList_eq]; rfl
  unfold isB
  rw [H]
  constructor
  · intro he
    rw [he] at hz
    have : s.size = 0 := by simpa using hz.symm
    simp [this]
  · intro he
    have h0 : s.size ≠ 0 := fun h0 => he (List.eq_nil_of_length_eq_zero (by omega))
    have e1 : (!s.toList.isEmpty) = true := by rw [Bool.not_eq_true']; exact List.isEmpty_eq_false_iff.2 he
    have e2 : decide ((s.size : Int) ≤ 16) = decide (s.size ≤ 16) := decide_eq_decide.2 (by omega)
    rw [e1, e2, decide_eq_true h0]
    rfl

set_option maxRecDepth 100000 in
theorem ident_Is (s : ByteArray) (w : World) (hs : s.size ≤ 9223372036854775807) :
    Calls Try.prog 42 #[.string s] w fun e w' => e = .returned (.bool (isB s)) ∧ Below w.heap.size w w' := by
  go_enter Try.func42, Try.ntmps42
  go_wp2
  go_loopw [] (fun w' => ∃ pos : Nat, w' = w.iter s pos ∧ pos ≤ s.size ∧ Hid (isTo s pos = true)) (fun w' => s.size - w'.iterPos w.heap.size)
  case atStart => exact ⟨0, rfl, Nat.zero_le _, rfl⟩
  case round =>
    obtain ⟨pos, rfl, hle, H⟩ := hrel
    by_cases hp : pos < s.size
    · obtain ⟨c, p', hnx0, hnb0, hbb0⟩ := Is_next s pos hp H
      have hnx := hnx0 Try.prog w
      have hnb := Lib.hid hnb0
      have hbb := Lib.hid hbb0
      clear hnx0 hnb0 hbb0
      rcases okI_cases pos c with ⟨hl, ho⟩ | ⟨hl, h0, ho⟩ | ⟨hl, h0, h1, h2, ho⟩ | ⟨hl, h0, h1, h2, ho⟩ | ⟨hl, h0, h1, h2, ho⟩ | ⟨hl, h0, h1, h2, h3, ho⟩
      all_goals have HO := Lib.hid ho; clear ho
      all_goals go_wp2_with (go_at_call 79; refine (ident_letter _ _).mono ?_; rintro e w' ⟨rfl, rfl⟩)
      all_goals first
        | (go_ret; exact ⟨ret_bool (hbb.out HO.out).symm, (Below.refl _ _).alloc (Nat.le_refl _) _⟩)
        | (obtain ⟨g1, g2, g3⟩ := hnb.out HO.out; exact ⟨⟨p', rfl, g2, g1⟩, by simp [World.iterPos, World.iter_heap]; omega⟩)
    · have hnx : ∀ ty, (Instr.next (.pointer (some ⟨w.heap.size, 0, none⟩)) true ty).run Try.prog (w.iter s pos) = _ := fun ty => run_next_end w s pos ty hp
      obtain rfl : pos = s.size := by omega
      go_wp2
      all_goals
        go_ret
        refine ⟨ret_bool ?_, (Below.refl _ _).alloc (Nat.le_refl _) _⟩
        first | exact (isB_end s H.out).1 ‹_› | exact (isB_end s H.out).2 ‹_›
end Go.Proofs.Ytialmfbjkegjoaa
