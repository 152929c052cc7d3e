/- What layer 5's constants come to. -/
import Derived.Test.YtialmfbjkegjoaaT2
import Derived.Test.YtialmfbjkegjoaaN3
import Derived.Test.YtialmfbjkegjoaaU2
set_option linter.unusedVariables false
set_option linter.unusedSimpArgs false
namespace Go.Proofs.Ytialmfbjkegjoaa
open Go.RowKit

def lv : PV := ⟨4, 0, 5, ⟨#[]⟩⟩
def sb : ByteArray := ⟨#[98]⟩
def sc : ByteArray := ⟨#[99]⟩
def saa : ByteArray := ⟨#[97, 97]⟩
def lt5 : List PSeen := [⟨sb, lv⟩, ⟨saa, lv⟩]
def lw5 : List PSeen := [⟨sb, lv⟩, ⟨sc, lv⟩, ⟨saa, lv⟩]
def lx5 : List PSeen := [⟨saa, lv⟩]
def ln5 : List PSeen := [⟨saa, lv⟩, ⟨sb, lv⟩]
theorem l5_put : putT lt5 = [2, 1, 98, 4, 128, 5, 0, 2, 97, 97, 4, 128, 5, 0] := by decide +kernel
theorem l5_may : mayT less3 lt5 = true := by decide +kernel
theorem l5_mayn : mayT less3 ln5 = false := by decide +kernel
theorem l5_take : takeT ⟨#[120, 2, 1, 98, 4, 128, 5, 0, 2, 97, 97, 4, 128, 5, 0]⟩ 1 = (lt5, 15, 0) := by decide +kernel
theorem l5_take2 : takeT ⟨#[33]⟩ 0 = ([], 0, 3) := by decide +kernel
theorem l5_w : setS lt5 ⟨sc, true, lv⟩ = lw5 := by decide +kernel
theorem l5_x : setS lt5 ⟨sb, false, ⟨0, 0, 0, ⟨#[]⟩⟩⟩ = lx5 := by decide +kernel
theorem l5_get : getT lt5 saa = (lv, true) := by decide +kernel
theorem l5_get2 : getT lt5 sc = (⟨0, 0, 0, ⟨#[]⟩⟩, false) := by decide +kernel
theorem l5_sum0 : sumL (putT []) = 12638153115695167455 := by decide +kernel
theorem l5_sum : (((sumL (putT lt5) : Nat) : Int) != (sumL (putT lx5) : Nat)) = true := by decide +kernel
theorem l5_merge : mergeL (lt5.map (·.contact)) (lw5.map (·.contact)) = [sb, sc, saa] := by
  refine mergeL_is ?_ ?_
  · unfold LtB
    decide +kernel
  · intro s
    simp only [lt5, lw5, List.map_cons, List.map_nil, List.mem_cons, List.not_mem_nil, or_false]
    constructor
    · rintro (h | h | h)
      · exact .inl (.inl h)
      · exact .inr (.inr (.inl h))
      · exact .inl (.inr h)
    · rintro ((h | h) | (h | h | h))
      · exact .inl h
      · exact .inr (.inr h)
      · exact .inl h
      · exact .inr (.inl h)
      · exact .inr (.inr h)
theorem l5_changes : changesL lt5 lw5 = [⟨sc, true, lv⟩] := by
  unfold changesL
  rw [l5_merge]
  decide +kernel
end Go.Proofs.Ytialmfbjkegjoaa
