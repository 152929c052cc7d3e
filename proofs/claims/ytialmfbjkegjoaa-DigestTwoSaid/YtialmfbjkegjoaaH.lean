/- Bytes: rows of bytes, and texts out of them; contracts of varint. -/
import Derived.Test.YtialmfbjkegjoaaG
import Derived.Laws.BytesArg
import Derived.Laws.BitsAllLaws
set_option linter.unusedVariables false
set_option linter.unusedSimpArgs false
namespace Go.Proofs.Ytialmfbjkegjoaa
open Go.RowKit

def enc8 (b : UInt8) : List Value := [.int .u8 b.toNat]
theorem enc8K : EncK enc8 1 := ⟨fun _ => rfl, fun x u hu => by simp only [enc8, List.mem_singleton] at hu; subst hu; rfl, by omega⟩
theorem one8 (w : World) (T : TypeId) (v : Int) (b : UInt8) (h : v = b.toNat) : RdS enc8 1 (w.alloc (.cells #[.int .u8 v] T)) (some ⟨w.heap.size, 0, none⟩) [b] := by
  subst h
  refine ⟨by simp, fun i y hy => ⟨w.heap.size, 0, rfl, fun j u hu => ?_⟩⟩
  rcases i with _ | i
  · simp at hy
    subst hy
    rcases j with _ | j
    · simp [enc8] at hu
      subst hu
      simp
    · simp [enc8] at hu
  · simp at hy
theorem str_of_nums (bs : List UInt8) : strOfNums (bs.map fun b => (b.toNat : Int)) = ⟨bs.toArray⟩ := by
  unfold strOfNums
  congr 1
  rw [List.map_map]
  congr 1
  conv => rhs; rw [← List.map_id bs]
  apply List.map_congr_left
  intro b _
  simp
theorem conv_str {P : Program} (src dst e : TypeId) (hs : P.underlying src = some (.slice e)) (he : P.underlying e = some (.int .u8)) (hd : P.underlying dst = some .string) {w : World} {A : Option Addr} {bs : List UInt8} (h : RdS enc8 1 w A bs) (c : Nat) :
    (convert src dst (.slice A bs.length c)).run P w = .ok (.string ⟨bs.toArray⟩) w := by
  rcases A with _ | ad
  · obtain rfl : bs = [] := by
      rcases bs with _ | ⟨x, r⟩
      · rfl
      · obtain ⟨b, off, e', _⟩ := h.2 0 x rfl; cases e'
    exact run_convert_bytes_nil w src e hs he 0 c dst hd
  · by_cases h0 : bs = []
    · subst h0
      show (convert src dst (.slice (some ad) 0 c)).run P w = _
      rw [run_convert_bytes_string w src dst e _ 0 c hs he hd]
      simp [Conv.bytesToString, loadCells, loadCellsFrom]
      rfl
    · obtain ⟨b, off, e'⟩ := h.addr h0
      cases e'
      have := run_convert_bytes_arg w src e hs he b off bs.length c (bs.map fun b => (b.toNat : Int)) (by simp) (fun i hi => by
        obtain ⟨b', off', e2, hc⟩ := h.2 i bs[i] (List.getElem?_eq_getElem hi)
        simp only [Option.some.injEq, Addr.mk.injEq, and_true] at e2
        obtain ⟨rfl, rfl⟩ := e2
        have := hc 0 _ rfl
        simp only [Nat.mul_one, Nat.add_zero] at this
        rw [this]
        simp [List.getD_eq_getElem?_getD, List.getElem?_eq_getElem hi]) dst hd
      rw [this, str_of_nums]

def putL (n : Nat) : List UInt8 := if h : n < 128 then [UInt8.ofNat n] else UInt8.ofNat (n % 128 + 128) :: putL (n / 128)
termination_by n
decreasing_by omega
theorem putL_small {n : Nat} (h : n < 128) : putL n = [UInt8.ofNat n] := by rw [putL, dif_pos h]
theorem putL_big {n : Nat} (h : ¬ n < 128) : putL n = UInt8.ofNat (n % 128 + 128) :: putL (n / 128) := by rw [putL, dif_neg h]
theorem putL_len : ∀ (k n : Nat), n < 128 ^ (k + 1) → (putL n).length ≤ k + 1
  | 0, n, h => by rw [putL_small (by simpa using h)]; simp
  | k + 1, n, h => by
    by_cases h1 : n < 128
    · rw [putL_small h1]; simp
    · rw [putL_big h1, List.length_cons]
      have := putL_len k (n / 128) (by rw [Nat.div_lt_iff_lt_mul (by omega), ← Nat.pow_succ]; exact h)
      omega
theorem putL_ten {n : Nat} (h : n < 18446744073709551616) : (putL n).length ≤ 10 := putL_len 9 n (Nat.lt_of_lt_of_le h (by decide))
theorem or128 : ∀ a : Nat, a < 256 → a ||| 128 = a % 128 + 128 := by decide +kernel
theorem u8_or_128 (m : Nat) : bits .or .u8 ((m : Int) % 256) 128 = ((UInt8.ofNat (m % 128 + 128)).toNat : Int) := by
  have h := u8_or_nat (m % 256) 128 (by omega) (by omega)
  rw [show ((m : Int) % 256) = ((m % 256 : Nat) : Int) by omega]
  refine (show bits .or .u8 ((m % 256 : Nat) : Int) (128 : Int) = _ from h).trans ?_
  rw [or128 _ (by omega)]
  have : (UInt8.ofNat (m % 128 + 128)).toNat = m % 128 + 128 := by rw [UInt8.toNat_ofNat']; omega
  rw [this]
  omega
theorem info8 : (Try.prog.info? 5).map (fun i => (i.zero, i.size, i.bytes)) = some (some (.int .u8 0), 1, 1) := by kernel_rfl
set_option maxHeartbeats 1000000 in
set_option maxRecDepth 100000 in
theorem varint_Put (n : Nat) (w : World) (hn : n < 18446744073709551616) :
    Calls Try.prog 64 #[.int .u64 n] w fun e w' => e = .returned (.string ⟨(putL n).toArray⟩) ∧ Below w.heap.size w w' := by
  go_enter Try.func64, Try.ntmps64
  go_wp2
  go_loopw [0, 3] (fun vn vo wr => ∃ (m : Nat) (bs : List UInt8) (v : Value), vn = .int .u64 m ∧ v = vo ∧ m ≤ n ∧ Hid (putL n = bs ++ putL m) ∧ Hid (bs.length + (putL m).length = (putL n).length) ∧ Hid (Own enc8 1 5 wr w.heap.size v bs) ∧ Hid (Below w.heap.size w wr)) (fun vn _ _ => (intOf vn).toNat)
  case atStart => exact ⟨n, [], _, rfl, rfl, Nat.le_refl _, by simp [Hid], by simp [Hid], Own.nil _ _ _ _ _, Below.refl _ _⟩
  case round =>
    obtain ⟨m, bs, v, rfl, rfl, hm, HP, HL, HO, HB⟩ := hrel
    have hlen : bs.length ≤ 10 := by have := HL.out; have := putL_ten hn; omega
    have HOa : Hid (∀ o : Obj, Own enc8 1 5 (wr.alloc o) w.heap.size v bs) := fun o => HO.out.below ((Below.refl _ _).alloc (Nat.le_refl _) o)
    have hsz := HB.out.size
    by_cases hlt : m < 128
    · have h1 : Hid ((m : Int) = ((UInt8.ofNat m).toNat : Int)) := by show (m : Int) = _; rw [UInt8.toNat_ofNat']; omega
      have HP2 : Hid (putL n = bs ++ [UInt8.ofNat m]) := by rw [Hid, HP.out, putL_small hlt]
      go_wp2_with (at_builtin; refine wp_app enc8K rfl _ _ 119 5 (.int .u8 0) 1 rfl Try.underlying119 info8 rfl _ bs [UInt8.ofNat m] _ _ _ rfl rfl rfl (HOa.out _) (one8 _ _ _ _ h1.out) (by simp only [List.length_cons, List.length_nil]; omega) (by omega) (by simp; omega) ?_; intro v1 w1 ho hg hat; have HG1 := Lib.hid (below_grown HB.out ((World.grownBy_alloc wr _ v.ownBlock).trans hg) hsz (fun j hj => (HO.out.base_le j hj).1)); obtain ⟨cs, hcs⟩ : ∃ cs, cs = bs ++ [UInt8.ofNat m] := ⟨_, rfl⟩; rw [← hcs] at ho; obtain ⟨A1, c1, hv1, _, _, hrd⟩ := ho.reads enc8K; rw [hv1]; have hcv := conv_str (P := Try.prog) 119 9 5 Try.underlying119 Try.underlying5 Try.underlying9 hrd c1; have HCS := Lib.hid hcs; clear ho hg hat hrd hcs hv1)
      go_ret
      exact ⟨ret_str (by rw [HP2.out, HCS.out]), HG1.out⟩
    · have h1 := Lib.hid (u8_or_128 m)
      have HP2 : Hid (putL n = bs ++ [UInt8.ofNat (m % 128 + 128)] ++ putL (m / 128)) := by rw [Hid, HP.out, putL_big hlt]; simp
      go_wp2_with (at_builtin; refine wp_app enc8K rfl _ _ 119 5 (.int .u8 0) 1 rfl Try.underlying119 info8 rfl _ bs [UInt8.ofNat (m % 128 + 128)] _ _ _ rfl rfl rfl (HOa.out _) (one8 _ _ _ _ h1.out) (by simp only [List.length_cons, List.length_nil]; omega) (by omega) (by simp; omega) ?_; intro v1 w1 ho hg hat; have HG1 := Lib.hid (below_grown HB.out ((World.grownBy_alloc wr _ v.ownBlock).trans hg) hsz (fun j hj => (HO.out.base_le j hj).1)); have HO1 := Lib.hid ho; clear ho hg hat)
      have hl2 : (putL n).length = bs.length + 1 + (putL (m / 128)).length := by rw [HP2.out]; simp; omega
      exact ⟨⟨m / 128, bs ++ [UInt8.ofNat (m % 128 + 128)], v1, by go_num, rfl, by omega, HP2.out, by show _ = _; rw [List.length_append, hl2]; rfl, HO1.out, HG1.out⟩, by simp [intOf]; omega⟩
end Go.Proofs.Ytialmfbjkegjoaa
