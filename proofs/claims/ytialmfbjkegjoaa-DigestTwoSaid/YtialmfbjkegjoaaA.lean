/- Contracts of cmp, strings.Compare and ident.Less over this seat's translation. -/
import Derived.Test.YtialmfbjkegjoaaProg
import Derived.Test.YtialmfbjkegjoaaK
import Derived.Shelf.Small.Strs
import Derived.WalkKit
import Derived.WalkSpells
import Derived.WalkLawsBesides
import Derived.Deep.QuietTactic
import Derived.BigQuiet
import Derived.Handy
set_option linter.unusedVariables false
set_option linter.unusedSimpArgs false
namespace Go.Proofs
open Go.Shelf
def Try.lays106_ren : Go.Shelf.Ren := ⟨fun | 106 => 107 | 213 => 127 | 265 => 144 | n => n, fun | 9 => 9 | 3 => 3 | n => n, fun | n => n⟩
theorem Try.lays106 : Go.Proofs.Lays.n106 Try.prog Try.lays106_ren := {
  mixed := by kernel_rfl
  f106 := Try.func107.trans (congrArg some (by kernel_rfl))
  f213 := Try.func127.trans (congrArg some (by kernel_rfl))
  f265 := Try.func144.trans (congrArg some (by kernel_rfl))
  t3 := Try.underlying3
  a3 := Try.isAgg3
  z3 := Try.sizeOf3
  v3 := Try.zeroValue3
  t9 := Try.underlying9
  a9 := Try.isAgg9
  z9 := Try.sizeOf9
  v9 := Try.zeroValue9 }
theorem Try.strings_Compare (a b : ByteArray) (w : World) :
    Calls Try.prog 107 #[.string a, .string b] w fun e w' => e = .returned (.int .i64 (Lib.compareBytes a.data.toList b.data.toList)) ∧ w' = w := Any.strings_Compare Try.lays106 a b w
end Go.Proofs
namespace Go.Proofs.Ytialmfbjkegjoaa
open Go.RowKit


theorem cmp_isNaN (a : Int) (w : World) :
    Calls Try.prog 126 #[.int .i64 a] w fun e w' => e = .returned (.bool false) ∧ w = w' := by
  go_enter Try.func126, Try.ntmps126
  go_wp2
  go_ret
  exact ⟨by simp, rfl⟩

def cmpI (a b : Int) : Int := if a < b then -1 else if b < a then 1 else 0

theorem cmp_Compare (a b : Int) (w : World) :
    Calls Try.prog 106 #[.int .i64 a, .int .i64 b] w fun e w' => e = .returned (.int .i64 (cmpI a b)) ∧ w = w' := by
  go_enter Try.func106, Try.ntmps106
  go_wp2_with (go_at_call 126; refine (cmp_isNaN _ _).mono ?_; rintro e w' ⟨rfl, rfl⟩)
  all_goals go_ret
  all_goals exact ⟨ret_int (by unfold cmpI; (repeat' split) <;> omega), rfl⟩

theorem cmp_Or2 (x y : Int) (b : Nat) (w : World) (h0 : w.cell? ⟨b, 0, none⟩ = some (.int .i64 x)) (h1 : w.cell? ⟨b, 1, none⟩ = some (.int .i64 y)) :
    Calls Try.prog 105 #[.slice (some ⟨b, 0, none⟩) 2 2] w fun e w' => e = .returned (.int .i64 (if x = 0 then y else x)) ∧ w = w' := by
  go_enter Try.func105, Try.ntmps105
  go_wp2
  go_rounds 3
  all_goals go_ret
  all_goals exact ⟨ret_int (by (repeat' split) <;> simp_all), rfl⟩

def compareI (a b : ByteArray) : Int := if a.size < b.size then -1 else if b.size < a.size then 1 else Lib.compareBytes a.data.toList b.data.toList

theorem ident_compare (a b : ByteArray) (w : World) :
    Calls Try.prog 74 #[.string a, .string b] w fun e w' => e = .returned (.int .i64 (compareI a b)) ∧ Below w.heap.size w w' := by

  go_enter Try.func74, Try.ntmps74
  go_wp2_with (first | (go_at_call 106; refine (cmp_Compare _ _ _).mono ?_; rintro e w' ⟨rfl, rfl⟩) | (go_at_call 107; refine (Try.strings_Compare _ _ _).mono ?_; rintro e w' ⟨rfl, rfl⟩) | (go_at_call 105; refine (cmp_Or2 (cmpI a.size b.size) (Lib.compareBytes a.data.toList b.data.toList) _ _ (by simp) (by simp)).mono ?_; rintro e w' ⟨rfl, rfl⟩))
  all_goals go_ret
  all_goals refine ⟨ret_int ?_, (Below.refl _ _).alloc (Nat.le_refl _) _⟩
  all_goals (unfold cmpI at *; unfold compareI; (repeat' split at *) <;> simp_all <;> omega)

def lessB (a b : ByteArray) : Bool := decide (compareI a b < 0)
theorem ident_Less (a b : ByteArray) (w : World) :
    Calls Try.prog 36 #[.string a, .string b] w fun e w' => e = .returned (.bool (lessB a b)) ∧ Below w.heap.size w w' := by
  go_enter Try.func36, Try.ntmps36
  go_wp2_with (go_at_call 74; refine (ident_compare _ _ _).mono ?_; rintro e w' ⟨rfl, hb1⟩)
  go_ret
  exact ⟨rfl, hb1⟩
end Go.Proofs.Ytialmfbjkegjoaa
