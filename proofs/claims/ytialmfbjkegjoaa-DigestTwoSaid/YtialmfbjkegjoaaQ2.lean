/- slices.SortFunc and Compact over strings that the call owns; ident.Merge. -/
import Derived.Test.YtialmfbjkegjoaaQ
import Derived.Test.YtialmfbjkegjoaaA
import Derived.Lib.OwnBridge
set_option linter.unusedVariables false
set_option linter.unusedSimpArgs false
namespace Go.Proofs.Ytialmfbjkegjoaa
open Go.RowKit

theorem ident_compare_g (a b : ByteArray) (w : World) :
    Calls Try.prog 74 #[.string a, .string b] w fun e w' => e = .returned (.int .i64 (compareI a b)) ∧ ∃ o, w' = w.alloc o := by
  go_enter Try.func74, Try.ntmps74
  go_wp2_with (first | (go_at_call 106; refine (cmp_Compare _ _ _).mono ?_; rintro e w' ⟨rfl, rfl⟩) | (go_at_call 107; refine (Try.strings_Compare _ _ _).mono ?_; rintro e w' ⟨rfl, rfl⟩) | (go_at_call 105; refine (cmp_Or2 (cmpI a.size b.size) (Lib.compareBytes a.data.toList b.data.toList) _ _ (by simp) (by simp)).mono ?_; rintro e w' ⟨rfl, rfl⟩))
  all_goals go_ret
  all_goals refine ⟨ret_int ?_, _, rfl⟩
  all_goals (unfold cmpI at *; unfold compareI; (repeat' split at *) <;> simp_all <;> omega)
theorem flat_str (xs : List ByteArray) : flat encStr xs = (xs.map (·.data.toList)).map Go.Proofs.encStr := by
  rw [Lib.map_encStr]
  induction xs with
  | nil => rfl
  | cons x r ih =>
    simp [flat, encStr] at ih ⊢
    exact ih
/-- ident.compare on bytes. -/
def compareL (x y : List UInt8) : Int := compareI ⟨x.toArray⟩ ⟨y.toArray⟩
theorem alloc_grow (w : World) (o : Obj) : w.alloc o = Sort.grow (w.drewN 0) #[o] := by
  show (⟨w.heap.push o, w.tape, w.drawn, w.os, w.output⟩ : World) = ⟨w.heap ++ #[o], w.tape, w.drawn + 0, w.os, w.output⟩
  rw [Nat.add_zero, Array.push_eq_append]
theorem cmp_lays (w : World) (blk off n : Nat) : CmpLays1 Try.prog 74 #[] Go.Proofs.encStr compareL blk off n w := by
  intro m os dk hs x y
  refine (ident_compare_g ⟨x.toArray⟩ ⟨y.toArray⟩ _).mono ?_
  rintro e w' ⟨rfl, o, rfl⟩
  refine ⟨rfl, 0, #[o], ?_⟩
  exact alloc_grow _ o
theorem cb_self : ∀ a : List UInt8, Lib.compareBytes a a = 0
  | [] => rfl
  | a :: r => by
    unfold Lib.compareBytes
    rw [if_neg (by simp), if_neg (by simp), cb_self r]
theorem cb_anti : ∀ a b : List UInt8, Lib.compareBytes b a = - Lib.compareBytes a b
  | [], [] => rfl
  | [], _ :: _ => rfl
  | _ :: _, [] => rfl
  | a :: r, b :: s => by
    unfold Lib.compareBytes
    by_cases h1 : a < b
    · have h2 : ¬ b < a := by rw [UInt8.lt_iff_toNat_lt] at *; omega
      rw [if_neg h2, if_pos h1, if_pos h1]
      rfl
    · by_cases h2 : b < a
      · rw [if_pos h2, if_neg h1, if_pos h2]
      · rw [if_neg h2, if_neg h1, if_neg h1, if_neg h2, cb_anti r s]
theorem cb_eq : ∀ a b : List UInt8, Lib.compareBytes a b = 0 → a = b
  | [], [], _ => rfl
  | [], _ :: _, h => by simp [Lib.compareBytes] at h
  | _ :: _, [], h => by simp [Lib.compareBytes] at h
  | a :: r, b :: s, h => by
    unfold Lib.compareBytes at h
    by_cases h1 : a < b
    · rw [if_pos h1] at h; omega
    · by_cases h2 : b < a
      · rw [if_neg h1, if_pos h2] at h; omega
      · rw [if_neg h1, if_neg h2] at h
        have : a = b := by rw [← UInt8.toNat_inj]; rw [UInt8.lt_iff_toNat_lt] at *; omega
        rw [this, cb_eq r s h]
theorem cb_trans : ∀ a b c : List UInt8, Lib.compareBytes a b < 0 → Lib.compareBytes b c < 0 → Lib.compareBytes a c < 0
  | [], _, [], h, h2 => by
    rename_i b
    rcases b with _ | ⟨x, b⟩ <;> simp [Lib.compareBytes] at h h2
  | [], _, _ :: _, _, _ => by simp [Lib.compareBytes]
  | _ :: _, [], _, h, _ => by simp [Lib.compareBytes] at h
  | _ :: _, _ :: _, [], _, h => by simp [Lib.compareBytes] at h
  | a :: r, b :: s, c :: u, h, h2 => by
    unfold Lib.compareBytes at h h2 ⊢
    simp only [UInt8.lt_iff_toNat_lt] at h h2 ⊢
    by_cases h3 : a.toNat < c.toNat
    · rw [if_pos h3]; decide
    · rw [if_neg h3]
      split at h
      · split at h2
        · omega
        · split at h2
          · omega
          · omega
      · split at h
        · omega
        · split at h2
          · omega
          · split at h2
            · omega
            · rw [if_neg (by omega)]
              exact cb_trans r s u h h2
theorem ltL (x y : List UInt8) : ltOf compareL x y = true ↔ x.length < y.length ∨ (x.length = y.length ∧ Lib.compareBytes x y < 0) := by
  unfold ltOf compareL compareI
  have e1 : (⟨x.toArray⟩ : ByteArray).size = x.length := rfl
  have e2 : (⟨y.toArray⟩ : ByteArray).size = y.length := rfl
  rw [e1, e2, decide_eq_true_eq]
  split
  · exact ⟨fun _ => Or.inl (by assumption), fun _ => by decide⟩
  · split
    · exact ⟨fun h => absurd h (by decide), fun h => by omega⟩
    · exact ⟨fun h => Or.inr ⟨by omega, h⟩, fun h => by rcases h with h | h; exact absurd h (by omega); exact h.2⟩
theorem ltL_f (x y : List UInt8) : ltOf compareL x y = false ↔ y = x ∨ ltOf compareL y x = true := by
  rw [← Bool.not_eq_true, ltL, ltL]
  have ha := cb_anti x y
  constructor
  · intro h
    by_cases hl : y.length < x.length
    · exact Or.inr (Or.inl hl)
    · by_cases h0 : Lib.compareBytes x y = 0
      · exact Or.inl (cb_eq x y h0).symm
      · exact Or.inr (Or.inr ⟨by omega, by omega⟩)
  · rintro (rfl | h) h2
    · have := cb_self y; omega
    · omega
theorem ltL_trans (x y z : List UInt8) (h : ltOf compareL x y = true) (h2 : ltOf compareL y z = true) : ltOf compareL x z = true := by
  rw [ltL] at *
  rcases h with h | ⟨h, h3⟩
  · rcases h2 with h2 | ⟨h2, h4⟩
    · exact Or.inl (by omega)
    · exact Or.inl (by omega)
  · rcases h2 with h2 | ⟨h2, h4⟩
    · exact Or.inl (by omega)
    · exact Or.inr ⟨by omega, cb_trans x y z h3 h4⟩
theorem compareL_swo : Sort.SWO (ltOf compareL) := by
  refine ⟨fun x => (ltL_f x x).2 (Or.inl rfl), ltL_trans, fun x y z h h2 => ?_⟩
  rw [ltL_f] at *
  rcases h with rfl | h
  · exact h2
  · rcases h2 with rfl | h2
    · exact Or.inr h
    · exact Or.inr (ltL_trans _ _ _ h2 h)
theorem compareL_total (x y : List UInt8) (h1 : ltOf compareL x y = false) (h2 : ltOf compareL y x = false) : x = y := by
  rcases (ltL_f x y).1 h1 with h | h
  · exact h.symm
  · rw [h] at h2
    cases h2
theorem below_grow (W : World) (os : Array Obj) : Below W.heap.size W (Sort.grow W os) := by
  refine ⟨rfl, rfl, rfl, ?_, fun k hk => ?_⟩
  · show W.heap.size ≤ (W.heap ++ os).size
    rw [Array.size_append]
    omega
  · show (W.heap ++ os)[k]? = _
    exact Array.getElem?_append_left hk
def sortB (xs : List (List UInt8)) : List (List UInt8) := xs.mergeSort fun x y => !(ltOf compareL) y x
/-- The row that the call owns, sorted. -/
theorem sort_own (v : Value) (xs : List ByteArray) (w : World) (base : Nat) (HO : Own encStr 1 9 w base v xs) (hb : base ≤ w.heap.size) (hl : xs.length ≤ 1000000) :
    Calls Try.prog 94 #[v, .func (.func 74) #[] #[]] w fun e w' => e = .returned (.tuple #[]) ∧ Own encStr 1 9 w' base v ((sortB (xs.map (·.data.toList))).map (⟨·.toArray⟩)) ∧ Below base w w' := by
  rw [Own, flat_str, show xs.length = (xs.map (·.data.toList)).length by simp] at HO
  have he : ∀ ys : List (List UInt8), (ys.map (fun l => (⟨l.toArray⟩ : ByteArray))).map (·.data.toList) = ys := by
    intro ys
    rw [List.map_map]
    exact List.map_id' ys
  by_cases hv : v = .slice none 0 0
  · subst hv
    rcases HO.2 with ⟨_, h0⟩ | ⟨g, cap, cur, h, _⟩
    · have hx : xs = [] := by
        rw [List.length_map] at h0
        exact List.eq_nil_of_length_eq_zero h0
      subst hx
      refine (AnyF.slices_SortFunc_none { Try.laysSort with } none 0 _ w).mono ?_
      rintro e w' ⟨rfl, rfl⟩
      refine ⟨rfl, ?_, Below.refl _ _⟩
      have hn : sortB ([] : List (List UInt8)) = [] := by simp [sortB]
      rw [List.map_nil, hn]
      exact Own.nil _ _ _ _ _
    · cases h
  · obtain ⟨g, cap, rfl, hg, hgw, hn, hc, hlen, hH⟩ := Lib.holds_of_ownsRow HO hv
    have hS := Any.slices_SortFunc_total Try.laysSort Go.Proofs.encStr (fun _ => rfl) compareL compareL_swo 74 #[] g 0 cap (xs.map (·.data.toList)).toArray w (enters_of Try.func74 (by kernel_rfl) rfl) (cmp_lays w g 0 _) hH hgw (by simp; omega) compareL_total
    refine (show Calls _ _ _ _ _ from hS).mono ?_
    rintro e w' ⟨rfl, n, os, rfl⟩
    have hys : (sortB (xs.map (·.data.toList))).length = (xs.map (·.data.toList)).length := by simp [sortB]
    have hO := Lib.ownsRow_putRow (q := n) HO hys (Nat.le_refl _)
    have hB := Lib.below_putRow (q := n) (d := (sortB (xs.map (·.data.toList))).toArray) (enc := Go.Proofs.encStr) (Below.refl base w) hg
    unfold sortWorld
    have e1 : (xs.map (·.data.toList)).toArray.toList.mergeSort (fun x y => !(ltOf compareL) y x) = sortB (xs.map (·.data.toList)) := by rw [List.toList_toArray]; rfl
    rw [e1]
    rw [List.take_of_length_le (by omega), ← hys] at hO
    have hlx : (sortB (xs.map (·.data.toList))).length = xs.length := by rw [hys, List.length_map]
    generalize sortB (xs.map (·.data.toList)) = ys at hO hB hlx
    generalize Sort.putRow Go.Proofs.encStr (Sort.ahead w n) g 0 ys.toArray = W at hO hB
    have hsz : base ≤ W.heap.size := Nat.le_trans hb hB.size
    refine ⟨rfl, ?_, hB.trans ((below_grow W os).mono hsz)⟩
    refine Own.below (w := W) ?_ (below_grow W os)
    rw [Own, flat_str, he, List.length_map]
    rw [List.length_map, ← hlx]
    exact hO
theorem compactTo_len (d : Array (List UInt8)) : ∀ m, (Lib.compactUpTo d m).length ≤ m
  | 0 => by simp [Lib.compactUpTo]
  | m + 1 => by
    have := compactTo_len d m
    rw [Lib.compactUpTo_succ, List.length_append]
    split <;> simp <;> omega
theorem compact_len (zs : List (List UInt8)) : (Lib.compact zs).length ≤ zs.length := by
  have := compactTo_len zs.toArray zs.length
  simpa [Lib.compact] using this
theorem compact_own (v : Value) (xs : List ByteArray) (w : World) (base : Nat) (HO : Own encStr 1 9 w base v xs) (hl : xs.length ≤ 1000000) :
    Calls Try.prog 95 #[v] w fun e w' => ∃ v', e = .returned v' ∧ Own encStr 1 9 w' base v' ((Lib.compact (xs.map (·.data.toList))).map (⟨·.toArray⟩)) ∧ Below base w w' := by
  rw [Own, flat_str, show xs.length = (xs.map (·.data.toList)).length by simp] at HO
  have hl2 : (xs.map (·.data.toList)).length ≤ 1000000 := by simpa using hl
  have he : ∀ ys : List (List UInt8), (ys.map (fun l => (⟨l.toArray⟩ : ByteArray))).map (·.data.toList) = ys := by
    intro ys
    rw [List.map_map]
    exact List.map_id' ys
  generalize xs.map (·.data.toList) = zs at HO hl2
  by_cases hv : v = .slice none 0 0
  · subst hv
    rcases HO.2 with ⟨_, h0⟩ | ⟨g, cap, cur, h, _⟩
    · obtain rfl : zs = [] := List.eq_nil_of_length_eq_zero h0
      refine (Any.slices_Compact_string_empty Try.laysCompact none 0 w).mono ?_
      rintro e w' ⟨rfl, rfl⟩
      exact ⟨_, rfl, Own.nil _ _ _ _ _, Below.refl _ _⟩
    · cases h
  · obtain ⟨g, cap, rfl, hg, hgw, hn, hc, hlen, hH⟩ := Lib.holds_of_ownsRow HO hv
    refine (Any.slices_Compact_string Try.laysCompact g 0 cap zs w hH (by omega) hn).mono ?_
    rintro e w' ⟨rfl, q, rfl⟩
    have hk : (Lib.compact zs).length ≤ zs.length := compact_len zs
    have hO := Lib.ownsRow_putRow (q := q) (ys := Lib.compact zs ++ List.replicate (zs.length - (Lib.compact zs).length) []) HO (by simp; omega) hk
    rw [List.take_left'  rfl] at hO
    refine ⟨_, rfl, ?_, Lib.below_putRow (Below.refl base w) hg⟩
    rw [Own, flat_str, he, List.length_map]
    exact hO
theorem Own.base_mono {α : Type} {enc : α → List Value} {k : Nat} {e : TypeId} {w : World} {base base' : Nat} {v : Value} {xs : List α} (h : Own enc k e w base v xs) (hb : base' ≤ base) : Own enc k e w base' v xs := by
  refine ⟨h.1, ?_⟩
  rcases h.2 with h2 | ⟨g, cap, cur, h1, h2, h3⟩
  · exact .inl h2
  · exact .inr ⟨g, cap, cur, h1, Nat.le_trans hb h2, h3⟩
def mergeL (xs ys : List ByteArray) : List ByteArray := (Lib.compact (sortB ((xs ++ ys).map (·.data.toList)))).map (⟨·.toArray⟩)
set_option maxHeartbeats 1000000 in
set_option maxRecDepth 100000 in
theorem ident_Merge (A B : Option Addr) (c d : Nat) (xs ys : List ByteArray) (w : World) (hx : RdS encStr 1 w A xs) (hy : RdS encStr 1 w B ys) (hl : xs.length + ys.length ≤ 1000000) :
    Calls Try.prog 56 #[.slice A xs.length c, .slice B ys.length d] w fun e w' => ∃ v, e = .returned v ∧ Own encStr 1 9 w' w.heap.size v (mergeL xs ys) ∧ Below w.heap.size w w' := by
  have X := Lib.hid hx
  have Y := Lib.hid hy
  clear hx hy
  go_enter Try.func56, Try.ntmps56
  have HC : Hid (∀ T, Calls Try.prog 93 #[.slice (some ⟨w.heap.size, 0, none⟩) 2 2] (w.alloc (.cells #[.slice A xs.length c, .slice B ys.length d] T)) fun e w' => ∃ v, e = .returned v ∧ Own encStr 1 9 w' w.heap.size v (xs ++ ys) ∧ Below w.heap.size w w') := by
    intro T
    have hb : Below w.heap.size w (w.alloc (.cells #[.slice A xs.length c, .slice B ys.length d] T)) := (Below.refl _ _).alloc (Nat.le_refl _) _
    refine (concat2 A B c d w.heap.size xs ys _ (X.out.below hb) (Y.out.below hb) hl (by simp) (by simp)).mono ?_
    rintro e w' ⟨v, rfl, ho, hb2⟩
    exact ⟨v, rfl, ho.base_mono hb.size, hb.trans (hb2.mono hb.size)⟩
  go_wp2_with (first | (go_at_call 93; refine (HC.out _).mono ?_; rintro e w1 ⟨v1, rfl, ho1, hb1⟩; have HO1 := Lib.hid ho1; have HB1 := Lib.hid hb1; clear ho1 hb1) | (go_at_call 94; refine (sort_own v1 (xs ++ ys) w1 w.heap.size HO1.out HB1.out.size (by simp; omega)).mono ?_; rintro e w2 ⟨rfl, ho2, hb2⟩; have HO2 := Lib.hid ho2; have HB2 := Lib.hid hb2; clear ho2 hb2) | (go_at_call 95; refine (compact_own v1 _ w2 w.heap.size HO2.out (by simp [sortB]; omega)).mono ?_; rintro e w3 ⟨v3, rfl, ho3, hb3⟩; have HO3 := Lib.hid ho3; have HB3 := Lib.hid hb3; clear ho3 hb3))
  go_ret
  refine ⟨v3, rfl, ?_, HB1.out.trans (HB2.out.trans HB3.out)⟩
  have := HO3.out
  rw [List.map_map, show ((fun x : ByteArray => x.data.toList) ∘ fun l : List UInt8 => (⟨l.toArray⟩ : ByteArray)) = id from rfl, List.map_id] at this
  exact this
end Go.Proofs.Ytialmfbjkegjoaa
