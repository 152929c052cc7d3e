/- Contracts of digest.contacts, Sum. -/
import Derived.Test.YtialmfbjkegjoaaM
set_option linter.unusedVariables false
set_option linter.unusedSimpArgs false
namespace Go.Proofs.Ytialmfbjkegjoaa
open Go.RowKit

def encStr (s : ByteArray) : List Value := [.string s]
theorem encStrK : EncK encStr 1 := ⟨fun _ => rfl, fun x u hu => by simp only [encStr, List.mem_singleton] at hu; subst hu; rfl, by omega⟩
theorem oneStr (w : World) (T : TypeId) (s : ByteArray) : RdS encStr 1 (w.alloc (.cells #[.string s] T)) (some ⟨w.heap.size, 0, none⟩) [s] := by
  refine ⟨by simp, fun i y hy => ⟨w.heap.size, 0, rfl, fun j u hu => ?_⟩⟩
  rcases i with _ | i
  · simp at hy
    subst hy
    rcases j with _ | j
    · simp [encStr] at hu
      subst hu
      simp
    · simp [encStr] at hu
  · simp at hy
theorem RdS.str {w : World} {A : Option Addr} {xs : List ByteArray} (h : RdS encStr 1 w A xs) (i : Nat) (hi : i < xs.length) :
    ∃ b off, A = some ⟨b, off, none⟩ ∧ w.cell? ⟨b, off + i, none⟩ = some (.string xs[i]) := by
  obtain ⟨b, off, e, hc⟩ := h.2 i xs[i] (List.getElem?_eq_getElem hi)
  have := hc 0 _ rfl
  rw [Nat.mul_one] at this
  exact ⟨b, off, e, this⟩
theorem infoStr : (Try.prog.info? 9).map (fun i => (i.zero, i.size, i.bytes)) = some (some (.string ⟨#[]⟩), 1, 16) := by kernel_rfl
set_option maxHeartbeats 1000000 in
set_option maxRecDepth 100000 in
theorem digest_contacts (A : Option Addr) (cp : Nat) (t : List PSeen) (w : World) (h : RdS encSeen 5 w A t) (ht : t.length ≤ 100000) :
    Calls Try.prog 71 #[.slice A t.length cp] w fun e w' => ∃ v, e = .returned v ∧ Own encStr 1 9 w' w.heap.size v (t.map (·.contact)) ∧ Below w.heap.size w w' := by
  have H := Lib.hid h
  clear h
  go_enter Try.func71, Try.ntmps71
  go_wp2
  go_loopw [3, 8] (fun vo i wr => ∃ (k : Nat) (v : Value), k ≤ t.length ∧ i = .int .i64 k ∧ v = vo ∧ Hid (Own encStr 1 9 wr w.heap.size v ((t.take k).map (·.contact))) ∧ Hid (Below w.heap.size w wr)) (fun _ i _ => t.length - (intOf i).toNat)
  case atStart => exact ⟨0, _, Nat.zero_le _, rfl, rfl, Own.nil _ _ _ _ _, Below.refl _ _⟩
  case round =>
    obtain ⟨k, v, hk, rfl, rfl, HO, HB⟩ := hrel
    have hsz := HB.out.size
    by_cases hlt : k < t.length
    · obtain ⟨b, off, rfl, h0, h1, h2, h3, h4⟩ := (H.out.below HB.out).seen k hlt
      have HOa : Hid (∀ o o' : Obj, Own encStr 1 9 ((wr.alloc o).alloc o') w.heap.size v ((t.take k).map (·.contact))) := fun o o' => HO.out.below (((Below.refl _ _).alloc (Nat.le_refl _) o).alloc (by simp) o')
      have HBb : Hid (∀ o o' : Obj, wr.grownBy ((wr.alloc o).alloc o') v.ownBlock) := fun o o' => (World.grownBy_alloc wr o v.ownBlock).trans (World.grownBy_alloc _ o' v.ownBlock)
      have HR1 : Hid (∀ (o : Obj) (T : TypeId), RdS encStr 1 ((wr.alloc o).alloc (.cells #[.string t[k].contact] T)) (some ⟨wr.heap.size + 1, 0, none⟩) [t[k].contact]) := fun o T => by have := oneStr (wr.alloc o) T t[k].contact; simp only [World.size_alloc] at this; exact this
      have HLn : Hid ((((t.take k).map (·.contact)).length + [t[k].contact].length) * 16 ≤ 140737488355328) := by show _ ≤ _; simp; omega
      go_wp2_with (at_builtin; refine wp_app encStrK rfl _ _ 45 9 (.string ⟨#[]⟩) 16 rfl Try.underlying45 infoStr rfl _ _ [t[k].contact] _ _ _ rfl rfl rfl (HOa.out _ _) (HR1.out _ _) HLn.out (by omega) (by simp; omega) ?_; intro v1 w1 ho hg hat; have HG1 := Lib.hid (below_grown HB.out ((HBb.out _ _).trans hg) hsz (fun j hj => (HO.out.base_le j hj).1)); have HO1 := Lib.hid ho; clear ho hg hat)
      exact ⟨⟨k + 1, v1, by omega, by go_num, rfl, by have := HO1.out; rw [List.take_succ_eq_append_getElem hlt, List.map_append]; exact this, HG1.out⟩, by simp [intOf]; omega⟩
    · go_wp2
      go_ret
      exact ⟨v, rfl, by have := HO.out; rwa [List.take_of_length_le (by omega)] at this, HB.out⟩
end Go.Proofs.Ytialmfbjkegjoaa
