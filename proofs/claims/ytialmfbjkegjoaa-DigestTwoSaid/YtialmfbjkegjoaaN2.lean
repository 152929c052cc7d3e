/- Contracts of digest.Put, Sum. -/
import Derived.Test.YtialmfbjkegjoaaN
set_option linter.unusedVariables false
set_option linter.unusedSimpArgs false
namespace Go.Proofs.Ytialmfbjkegjoaa
open Go.RowKit

theorem builder_at_below {T e : TypeId} {B b : Nat} {p : Value} {bs : List Value} {w w' : World} (h : Lib.BuilderAtF T e B b p bs w) (hb : Below w.heap.size w w') : Lib.BuilderAtF T e B b p bs w' := by
  have hlt := h.lt
  obtain ⟨hB, v, hbk, hown, hne⟩ := h
  refine ⟨hB, v, (hb.block b hlt).trans hbk, ⟨hown.1, ?_⟩, hne⟩
  rcases hown.2 with hn | ⟨g, cap, cur, fz, hv, hbg, hg, rest⟩
  · exact .inl hn
  · refine .inr ⟨g, cap, cur, fz, hv, hbg, (hb.block g ?_).trans hg, rest⟩
    rcases Nat.lt_or_ge g w.heap.size with h' | h'
    · exact h'
    · simp [Array.getElem?_eq_none h'] at hg
theorem builder_below {T e : TypeId} {B b : Nat} {bs : List Value} {w w' : World} (h : Lib.IsBuilderF T e B b bs w) (hb : Below w.heap.size w w') : Lib.IsBuilderF T e B b bs w' :=
  h.elim (fun x => .inl (builder_at_below x hb)) (fun x => .inr (builder_at_below x hb))
theorem putI_size (s : ByteArray) : (putI s).size ≤ 26 := by
  unfold putI
  split
  · rename_i h
    unfold isB at h
    simp only [Bool.and_eq_true, decide_eq_true_eq] at h
    have := textV_size (d := s) (by omega)
    omega
  · exact Nat.zero_le _
theorem putVv_size (x : PV) : (putVv x).size ≤ 54 := by
  unfold putVv
  split
  · rename_i h
    unfold vokB at h
    simp only [Bool.and_eq_true, decide_eq_true_eq] at h
    have hr := h.1
    unfold vrange at hr
    have := textV_size (d := x.status) (by omega)
    have := putS_size (n := x.since.toNat) (by omega)
    have := headS_size x
    rw [ByteArray.size_append, ByteArray.size_append]
    omega
  · exact Nat.zero_le _
def putR (x : PSeen) : List UInt8 := (putI x.contact ++ putVv x.value).data.toList
theorem putR_len (x : PSeen) : (putR x).length ≤ 80 := by
  unfold putR
  have := putI_size x.contact
  have := putVv_size x.value
  have h : (putI x.contact ++ putVv x.value).size = (putI x.contact).size + (putVv x.value).size := ByteArray.size_append
  rw [Lib.size_eq] at h
  omega
theorem putsR_len (t : List PSeen) : (t.flatMap putR).length ≤ t.length * 80 := by
  induction t with
  | nil => simp
  | cons x r ih =>
    rw [List.flatMap_cons, List.length_append, List.length_cons]
    have := putR_len x
    omega
/-- The table's bytes. -/
def putT (t : List PSeen) : List UInt8 := if mayT less3 t then putL t.length ++ t.flatMap putR else []
set_option maxHeartbeats 1000000 in
set_option maxRecDepth 100000 in
theorem digest_Put (A : Option Addr) (c : Nat) (t : List PSeen) (w : World) (h : RdS encSeen 5 w A t) (ho : ∀ x ∈ t, x.contact.size ≤ 9223372036854775000 ∧ x.value.status.size ≤ 9223372036854775000) :
    Calls Try.prog 27 #[.slice A t.length c] w fun e w' => e = .returned (.tuple #[.string ⟨(putT t).toArray⟩, .bool (mayT less3 t)]) ∧ Below w.heap.size w w' := by
  have hM := digest_May A c t w h (fun x hx => ⟨by have := (ho x hx).1; unfold okStr; omega, by have := (ho x hx).2; unfold okStr; omega⟩)
  have H := Lib.hid h
  have HO := Lib.hid ho
  clear h ho
  unfold putT
  by_cases hm : mayT less3 t = true
  · rw [hm] at hM
    rw [if_pos hm, hm]
    have hlen : t.length ≤ 32 := by
      unfold mayT at hm
      simp only [Bool.and_eq_true, decide_eq_true_eq] at hm
      exact hm.1
    clear hm
    have hP := fun w => varint_Put t.length w (by omega)
    have HPL := Lib.hid (putL_ten (n := t.length) (by omega))
    go_enter Try.func27, Try.ntmps27
    go_wp2_with (first | (go_at_call 32; refine hM.mono ?_; rintro e w1 ⟨rfl, hb1⟩; have HB1 := Lib.hid hb1; have HF := Lib.hid (Lib.IsBuilderF.of (Lib.fresh_isBuilder 121 5 w1)); clear hb1) | (go_at_call 64; refine (hP _).mono ?_; rintro e w2 ⟨rfl, hb2⟩; have HB2 := Lib.hid hb2; clear hb2) | (go_at_call 63; refine (Try.Builder_WriteString_f w1.heap.size w1.heap.size [] ⟨(putL t.length).toArray⟩ w2 (builder_below HF.out HB2.out) (by have := HPL.out; simp [ByteArray.size]; omega) (Nat.le_trans (by simp) HB2.out.size)).mono ?_; rintro e w3 ⟨rfl, hf3, hb3⟩; have HF3 := Lib.hid hf3; have HB3 := Lib.hid hb3; clear hf3 hb3))
    have HBA : Hid (Below w.heap.size w w3) := HB1.out.trans (((((Below.refl w1.heap.size w1).alloc (Nat.le_refl _) _).trans (HB2.out.mono (by simp))).trans HB3.out).mono HB1.out.size)
    have hw1 : w1.heap.size ≤ w3.heap.size := Nat.le_trans (Nat.le_trans (by simp) HB2.out.size) HB3.out.size
    go_loopw [21] (fun i wr => ∃ k : Nat, k ≤ t.length ∧ i = .int .i64 k ∧ Hid (Lib.IsBuilderF 121 5 w1.heap.size w1.heap.size (Lib.byteCells (putL t.length ++ (t.take k).flatMap putR)) wr) ∧ Hid (Below w.heap.size w wr) ∧ Hid (w1.heap.size ≤ wr.heap.size)) (fun i _ => t.length - (intOf i).toNat)
    case atStart => exact ⟨0, Nat.zero_le _, rfl, Or.inr (by have := HF3.out; rw [List.nil_append, Lib.strCells_eq] at this; simpa using this), HBA.out, hw1⟩
    case round =>
      obtain ⟨k, hk, rfl, HF, HB, HS⟩ := hrel
      by_cases hlt : k < t.length
      · obtain ⟨b, off, rfl, h0, h1, h2, h3, h4⟩ := (H.out.below HB.out).seen k hlt
        have hz := HO.out t[k] (List.getElem_mem hlt)
        have hPI := fun w => ident_Put t[k].contact w hz.1
        have hPV := fun w => value_Put t[k].value.show_ t[k].value.prio t[k].value.since t[k].value.status w hz.2
        clear hz
        have hs1 := putI_size t[k].contact
        have hs2 := putVv_size ⟨t[k].value.show_, t[k].value.prio, t[k].value.since, t[k].value.status⟩
        have HLN : Hid ((Lib.byteCells (putL t.length ++ (t.take k).flatMap putR)).length + (putI t[k].contact ++ putVv t[k].value).size ≤ 140737488355328) := by
          have h5 := putsR_len (t.take k)
          have h6 := HPL.out
          show _ ≤ _
          rw [Lib.byteCells_length, List.length_append, ByteArray.size_append]
          rw [List.length_take] at h5
          have hs2 := putVv_size t[k].value
          omega
        go_wp2_with (first | (go_at_call 65; refine (hPI _).mono ?_; rintro e w5 ⟨rfl, hb5⟩; obtain ⟨_, g5, hc5⟩ := one_cells (hb5.mono (by simp)); have k1 := g5 1 _ rfl; have k2 := g5 2 _ rfl; have k3 := g5 3 _ rfl; have k4 := g5 4 _ rfl; simp only [List.getElem_toArray, List.getElem_cons_zero, List.getElem_cons_succ] at k1 k2 k3 k4; have HB5 := Lib.hid hc5; clear g5 hb5 hc5) | (go_at_call 66; refine (hPV _).mono ?_; rintro e w6 ⟨rfl, hb6⟩; have HB6 := Lib.hid hb6; clear hb6) | (go_at_call 63; refine (Try.Builder_WriteString_f w1.heap.size w1.heap.size _ (putI t[k].contact ++ putVv t[k].value) w6 (builder_below (builder_below HF.out HB5.out) HB6.out) HLN.out (Nat.le_trans HS.out (Nat.le_trans HB5.out.size HB6.out.size))).mono ?_; rintro e w7 ⟨rfl, hf7, hb7⟩; have HF7 := Lib.hid hf7; have HB7 := Lib.hid hb7; clear hf7 hb7))
        refine ⟨⟨k + 1, by omega, by go_num, Or.inr ?_, HB.out.trans ((HB5.out.mono HB.out.size).trans ((HB6.out.mono (Nat.le_trans HB.out.size HB5.out.size)).trans (HB7.out.mono HB1.out.size))), ?_⟩, by simp [intOf]; omega⟩
        · have := HF7.out
          rw [Lib.strCells_eq, ← Lib.byteCells_append] at this
          rw [List.take_succ_eq_append_getElem hlt, List.flatMap_append, List.flatMap_singleton, ← List.append_assoc]
          exact this
        · exact Nat.le_trans HS.out (Nat.le_trans HB5.out.size (Nat.le_trans HB6.out.size HB7.out.size))
      · go_wp2_with (go_at_call 67; refine (Try.Builder_String_any_f w1.heap.size w1.heap.size _ _ HF.out HS.out).mono ?_; rintro e w5 ⟨rfl, hf5, hb5⟩; have HB5 := Lib.hid hb5; clear hf5 hb5)
        go_ret2
        have e : t.take k = t := List.take_of_length_le (by omega)
        exact ⟨tup2 (by rw [e]; rfl) rfl, HB.out.trans (HB5.out.mono HB1.out.size)⟩
  · have hm : mayT less3 t = false := by simpa using hm
    rw [hm] at hM
    rw [if_neg (by simp [hm]), hm]
    go_enter Try.func27, Try.ntmps27
    go_wp2_with (first | (go_at_call 32; refine hM.mono ?_; rintro e w1 ⟨rfl, hb1⟩))
    go_ret2
    exact ⟨rfl, hb1⟩
end Go.Proofs.Ytialmfbjkegjoaa
