/- Layer 5's live answers: contracts at its constants. -/
import Derived.Test.YtialmfbjkegjoaaW0
import Derived.Test.YtialmfbjkegjoaaR3
set_option linter.unusedVariables false
set_option linter.unusedSimpArgs false
namespace Go.Proofs.Ytialmfbjkegjoaa
open Go.RowKit

theorem Set_sl (A : Option Addr) (n : Nat) (t : List PSeen) (c : PChange) (w : World) (h : RdS encSeen 5 w A t) (hn : t.length ≤ n) (hl : t.length ≤ 100000) {r : List PSeen} (hr : setS t c = r) :
    Calls Try.prog 9 #[.slice A t.length n, .agg #[.string c.contact, .bool c.on, .int .i64 c.value.show_, .int .i64 c.value.prio, .int .i64 c.value.since, .string c.value.status]] w fun e w' => ∃ A1 c1, e = .returned (.slice A1 r.length c1) ∧ r.length ≤ c1 ∧ RdS encSeen 5 w' A1 r ∧ Below w.heap.size w w' := by
  subst hr
  refine (digest_Set A n t c w h hn hl).mono ?_
  rintro e w' ⟨v, rfl, ⟨A1, c1, rfl, h1, _, h2⟩, hb⟩
  exact ⟨A1, c1, rfl, h1, h2, hb⟩
theorem RdS.at {α : Type} {enc : α → List Value} {k : Nat} {w : World} {b off : Nat} {xs : List α} (h : RdS enc k w (some ⟨b, off, none⟩) xs) (i j : Nat) {x : α} {u : Value} (hx : xs[i]? = some x) (hu : (enc x)[j]? = some u) : w.cell? ⟨b, off + i * k + j, none⟩ = some u := by
  obtain ⟨b', off', e, hc⟩ := h.2 i x hx
  simp only [Option.some.injEq, Addr.mk.injEq, and_true] at e
  obtain ⟨rfl, rfl⟩ := e
  exact hc j u hu
theorem keepC {w w2 : World} {a : Addr} {u : Value} (hb : Below w.heap.size w w2) (h : w.cell? a = some u) : w2.cell? a = some u := (hb.cell (World.block_lt_of_cell? w _ h)).trans h
theorem l5_small {t : List PSeen} (ht : t = lt5 ∨ t = lx5 ∨ t = ln5 ∨ t = []) : ∀ x ∈ t, x.contact.size ≤ 9223372036854775000 ∧ x.value.status.size ≤ 9223372036854775000 := by
  have hz : lt5.all (fun x => decide (x.contact.size ≤ 9223372036854775000) && decide (x.value.status.size ≤ 9223372036854775000)) = true := by decide +kernel
  have hz2 : lx5.all (fun x => decide (x.contact.size ≤ 9223372036854775000) && decide (x.value.status.size ≤ 9223372036854775000)) = true := by decide +kernel
  have hz3 : ln5.all (fun x => decide (x.contact.size ≤ 9223372036854775000) && decide (x.value.status.size ≤ 9223372036854775000)) = true := by decide +kernel
  intro x hx
  rcases ht with rfl | rfl | rfl | rfl
  · have := List.all_eq_true.1 hz x hx; simpa using this
  · have := List.all_eq_true.1 hz2 x hx; simpa using this
  · have := List.all_eq_true.1 hz3 x hx; simpa using this
  · cases hx
theorem l5_ok {t : List PSeen} (ht : t = lt5 ∨ t = lx5 ∨ t = ln5 ∨ t = []) : ∀ x ∈ t, okSeen x := fun x hx => by
  have := l5_small ht x hx
  unfold okSeen okStr
  omega
theorem W_Put (A : Option Addr) (c : Nat) (w : World) (h : RdS encSeen 5 w A lt5) :
    Calls Try.prog 27 #[.slice A 2 c] w fun e w' => e = .returned (.tuple #[.string ⟨#[2, 1, 98, 4, 128, 5, 0, 2, 97, 97, 4, 128, 5, 0]⟩, .bool true]) ∧ Below w.heap.size w w' := by
  have := digest_Put A c lt5 w h (l5_small (.inl rfl))
  rw [l5_put, l5_may] at this
  exact this
theorem W_Take (w : World) :
    Calls Try.prog 28 #[.string (⟨#[120]⟩ ++ ⟨#[2, 1, 98, 4, 128, 5, 0, 2, 97, 97, 4, 128, 5, 0]⟩), .int .i64 1] w fun e w' => ∃ A c, e = .returned (.tuple #[.slice A 2 c, .int .i64 15, .int .i64 0]) ∧ RdS encSeen 5 w' A lt5 ∧ Below w.heap.size w w' := by
  have := digest_Take ⟨#[120, 2, 1, 98, 4, 128, 5, 0, 2, 97, 97, 4, 128, 5, 0]⟩ 1 w (by decide) (by decide)
  rw [l5_take] at this
  rw [show ((⟨#[120]⟩ : ByteArray) ++ ⟨#[2, 1, 98, 4, 128, 5, 0, 2, 97, 97, 4, 128, 5, 0]⟩) = ⟨#[120, 2, 1, 98, 4, 128, 5, 0, 2, 97, 97, 4, 128, 5, 0]⟩ by decide +kernel]
  refine Calls.mono this ?_
  rintro e w' ⟨v, rfl, ⟨A1, c1, rfl, h1, _, h2⟩, hb⟩
  exact ⟨A1, c1, rfl, h2, hb⟩
theorem W_Take2 (w : World) :
    Calls Try.prog 28 #[.string ⟨#[33]⟩, .int .i64 0] w fun e w' => ∃ A c, e = .returned (.tuple #[.slice A 0 c, .int .i64 0, .int .i64 3]) ∧ Below w.heap.size w w' := by
  have := digest_Take ⟨#[33]⟩ 0 w (by decide) (by decide)
  rw [l5_take2] at this
  refine Calls.mono this ?_
  rintro e w' ⟨v, rfl, ⟨A1, c1, rfl, h1, _, h2⟩, hb⟩
  exact ⟨A1, c1, rfl, hb⟩
theorem W_Set1 (A : Option Addr) (n : Nat) (w : World) (h : RdS encSeen 5 w A lt5) (hn : 2 ≤ n) :
    Calls Try.prog 9 #[.slice A 2 n, .agg #[.string ⟨#[99]⟩, .bool true, .int .i64 4, .int .i64 0, .int .i64 5, .string ⟨#[]⟩]] w fun e w' => ∃ b1 o1 c1, e = .returned (.slice (some ⟨b1, o1, none⟩) 3 c1) ∧ RdS encSeen 5 w' (some ⟨b1, o1, none⟩) lw5 ∧ Below w.heap.size w w' := by
  refine Calls.mono (Set_sl A n lt5 ⟨sc, true, lv⟩ w h hn (by decide) l5_w) ?_
  rintro e w' ⟨A1, c1, rfl, _, h2, hb⟩
  obtain ⟨b, o, rfl⟩ := h2.addr (by decide)
  exact ⟨b, o, c1, rfl, h2, hb⟩
theorem W_Set2 (A : Option Addr) (n : Nat) (w : World) (h : RdS encSeen 5 w A lt5) (hn : 2 ≤ n) :
    Calls Try.prog 9 #[.slice A 2 n, .agg #[.string ⟨#[98]⟩, .bool false, .int .i64 0, .int .i64 0, .int .i64 0, .string ⟨#[]⟩]] w fun e w' => ∃ b1 o1 c1, e = .returned (.slice (some ⟨b1, o1, none⟩) 1 c1) ∧ RdS encSeen 5 w' (some ⟨b1, o1, none⟩) lx5 ∧ Below w.heap.size w w' := by
  refine Calls.mono (Set_sl A n lt5 ⟨sb, false, ⟨0, 0, 0, ⟨#[]⟩⟩⟩ w h hn (by decide) l5_x) ?_
  rintro e w' ⟨A1, c1, rfl, _, h2, hb⟩
  obtain ⟨b, o, rfl⟩ := h2.addr (by decide)
  exact ⟨b, o, c1, rfl, h2, hb⟩
theorem W_Get1 (A : Option Addr) (n : Nat) (w : World) (h : RdS encSeen 5 w A lt5) :
    Calls Try.prog 29 #[.slice A 2 n, .string ⟨#[97, 97]⟩] w fun e w' => e = .returned (.tuple #[.agg #[.int .i64 4, .int .i64 0, .int .i64 5, .string ⟨#[]⟩], .bool true]) ∧ Below w.heap.size w w' :=
  digest_Get2 A n lt5 saa w h l5_get
theorem W_Get2 (A : Option Addr) (n : Nat) (w : World) (h : RdS encSeen 5 w A lt5) :
    Calls Try.prog 29 #[.slice A 2 n, .string ⟨#[99]⟩] w fun e w' => e = .returned (.tuple #[.agg #[.int .i64 0, .int .i64 0, .int .i64 0, .string ⟨#[]⟩], .bool false]) ∧ Below w.heap.size w w' :=
  digest_Get2 A n lt5 sc w h l5_get2
theorem W_Changes (A B : Option Addr) (n m : Nat) (w : World) (h : RdS encSeen 5 w A lt5) (g : RdS encSeen 5 w B lw5) :
    Calls Try.prog 30 #[.slice A 2 n, .slice B 3 m] w fun e w' => ∃ b1 o1 c1, e = .returned (.slice (some ⟨b1, o1, none⟩) 1 c1) ∧ RdS encChange 6 w' (some ⟨b1, o1, none⟩) [⟨sc, true, lv⟩] ∧ Below w.heap.size w w' := by
  refine Calls.mono (digest_Changes A B n m lt5 lw5 w h g (by decide) (by decide)) ?_
  rintro e w' ⟨v, rfl, ho, hb⟩
  rw [l5_changes] at ho
  obtain ⟨A1, c1, rfl, _, hr⟩ := ho.slice encChangeK
  obtain ⟨b, o, rfl⟩ := hr.addr (by decide)
  exact ⟨b, o, c1, rfl, hr, hb⟩
theorem W_Sum0 (w : World) : Calls Try.prog 31 #[.slice none 0 0] w fun e w' => e = .returned (.int .u64 12638153115695167455) ∧ Below w.heap.size w w' := by
  have := digest_Sum none 0 [] w (RdS.nil _ _ _ _) (l5_small (by simp))
  rw [l5_sum0] at this
  exact this
theorem W_Sum (A : Option Addr) (n : Nat) (t : List PSeen) (w : World) (ht : t = lt5 ∨ t = lx5 ∨ t = ln5 ∨ t = []) (h : RdS encSeen 5 w A t) : Calls Try.prog 31 #[.slice A t.length n] w fun e w' => e = .returned (.int .u64 (sumL (putT t))) ∧ Below w.heap.size w w' :=
  digest_Sum A n t w h (l5_small ht)
theorem W_May1 (A : Option Addr) (n : Nat) (w : World) (h : RdS encSeen 5 w A lt5) : Calls Try.prog 32 #[.slice A 2 n] w fun e w' => e = .returned (.bool true) ∧ Below w.heap.size w w' := by
  have := digest_May A n lt5 w h (l5_ok (.inl rfl))
  rw [l5_may] at this
  exact this
theorem W_May2 (A : Option Addr) (n : Nat) (w : World) (h : RdS encSeen 5 w A ln5) : Calls Try.prog 32 #[.slice A 2 n] w fun e w' => e = .returned (.bool false) ∧ Below w.heap.size w w' := by
  have := digest_May A n ln5 w h (l5_ok (by simp))
  rw [l5_mayn] at this
  exact this
theorem W_Same (A B : Option Addr) (n m : Nat) (w : World) (h : RdS encSeen 5 w A lt5) (g : RdS encSeen 5 w B lt5) : Calls Try.prog 10 #[.slice A 2 n, .slice B 2 m] w fun e w' => e = .returned (.bool true) ∧ Below w.heap.size w w' := by
  have := ref05_Same A B n m lt5 lt5 w h g
  simp only [decide_true] at this
  exact this
/-- A fresh block reads as a list. -/
theorem freshRow {α : Type} {enc : α → List Value} {k : Nat} (E : EncK enc k) (W : World) (cs : List Value) (n : Nat) (hn : W.heap.size = n) (xs : List α) (hc : cs = flat enc xs) (hx : xs.length ≤ 1000000) (T : TypeId) : RdS enc k (W.alloc (.cells cs.toArray T)) (some ⟨n, 0, none⟩) xs := by
  subst hn hc
  refine ⟨by omega, fun i y hy => ⟨W.heap.size, 0, rfl, fun j u hu => ?_⟩⟩
  have hj : j < k := by
    have := (List.getElem?_eq_some_iff.1 hu).1
    rwa [E.len] at this
  have h1 := flat_at E xs i j y hy hj
  rw [hu] at h1
  simp [h1]
end Go.Proofs.Ytialmfbjkegjoaa
