/- Slices that are read: what a slice's cells say. No program in sight. -/
import Derived.WalkKit
import Derived.WalkSpells
import Derived.WalkLawsBesides
import Derived.Below
import Derived.Lib.Hide
import Derived.Deep.QuietTactic
import Derived.BigQuiet
set_option linter.unusedVariables false
set_option linter.unusedSimpArgs false
namespace Go.Proofs.Ytialmfbjkegjoaa
open Go.RowKit

theorem ret_int {k : IntKind} {a b : Int} (h : a = b) : Ending.returned (.int k a) = .returned (.int k b) := by rw [h]
theorem ret_bool {a b : Bool} (h : a = b) : Ending.returned (.bool a) = .returned (.bool b) := by rw [h]
theorem ret_str {a b : ByteArray} (h : a = b) : Ending.returned (.string a) = .returned (.string b) := by rw [h]

/-- A world that is as w was, below w's own size. -/
structure BelowBy (w : World) where
  world : World
  below : Below w.heap.size w world
instance (w : World) : Inhabited (BelowBy w) := ⟨⟨w, Below.refl _ _⟩⟩
theorem BelowBy.cell {w : World} {a : Addr} {v : Value} (h : w.cell? a = some v) (p : BelowBy w) : p.world.cell? a = some v := by
  rw [p.below.cell (World.block_lt_of_cell? w _ h), h]
theorem Calls.below_of {P : Program} {f : FuncId} {args : Array Value} {w : World} {p : BelowBy w} {v : Value}
    (h : Calls P f args p.world fun e w' => e = .returned v ∧ Below p.world.heap.size p.world w') : Calls P f args p.world fun e w'' => e = .returned v ∧ ∃ p' : BelowBy w, w'' = p'.world :=
  h.mono fun _ w'' ⟨he, hb⟩ => ⟨he, ⟨w'', p.below.trans (hb.mono p.below.size)⟩, rfl⟩
theorem Calls.same_of {P : Program} {f : FuncId} {args : Array Value} {w : World} {p : BelowBy w} {v : Value}
    (h : Calls P f args p.world fun e w' => e = .returned v ∧ p.world = w') : Calls P f args p.world fun e w'' => e = .returned v ∧ ∃ p' : BelowBy w, w'' = p'.world :=
  h.mono fun _ w'' ⟨he, hb⟩ => ⟨he, p, hb.symm⟩
theorem wp_region_below {P : Program} {id : Nat} {Q : Exit → Act → World → Prop} {a : Act} {w : World} {l : List Oper} (hm : P.follows .mixedOrders = true) (hB : Region.lexB .any l.toArray = true)
    (h : wpQuiet P l.toArray (fun w' => ∃ p : BelowBy w, w' = p.world) (fun a' => ∀ w', (∃ p : BelowBy w, w' = p.world) → Q .normal a' w') l a) : (Code.region id l.toArray true).wp P Q a w :=
  wp_region_quiet (C := fun w' => ∃ p : BelowBy w, w' = p.world) hm hB ⟨⟨w.drew, (Below.refl _ _).drew⟩, rfl⟩ (by simpa using h)

/-- A presence. -/
structure PV where
  show_ : Int
  prio : Int
  since : Int
  status : ByteArray
deriving DecidableEq
structure PSeen where
  contact : ByteArray
  value : PV
deriving DecidableEq
structure PChange where
  contact : ByteArray
  on : Bool
  value : PV
deriving DecidableEq
def eqVB (x y : PV) : Bool := decide (x = y)
def eqSeenB (x y : PSeen) : Bool := decide (x = y)
def eqChangeB (x y : PChange) : Bool := decide (x = y)
theorem eqSeenB_yes {x y : PSeen} (h : (!eqSeenB x y) = false) : x = y := of_decide_eq_true (by simpa [eqSeenB] using h)
theorem eqSeenB_no {x y : PSeen} (h : (!eqSeenB x y) = true) : ¬ x = y := by simpa [eqSeenB] using h
def PV.z : PV := ⟨0, 0, 0, ⟨#[]⟩⟩
def encV (v : PV) : List Value := [.int .i64 v.show_, .int .i64 v.prio, .int .i64 v.since, .string v.status]
def encSeen (x : PSeen) : List Value := .string x.contact :: encV x.value
def encChange (x : PChange) : List Value := .string x.contact :: .bool x.on :: encV x.value

/-- The slice (A, n) reads as xs, k cells an element. -/
def RdS {α : Type} (enc : α → List Value) (k : Nat) (w : World) (A : Option Addr) (xs : List α) : Prop :=
  xs.length ≤ 9223372036854775807 ∧ ∀ (i : Nat) (x : α), xs[i]? = some x → ∃ b off, A = some ⟨b, off, none⟩ ∧ ∀ j u, (enc x)[j]? = some u → w.cell? ⟨b, off + i * k + j, none⟩ = some u
theorem RdS.below {α : Type} {enc : α → List Value} {k : Nat} {w w1 : World} {A : Option Addr} {xs : List α} (h : RdS enc k w A xs) (hb : Below w.heap.size w w1) : RdS enc k w1 A xs := by
  refine ⟨h.1, fun i x hx => ?_⟩
  obtain ⟨b, off, e, hc⟩ := h.2 i x hx
  refine ⟨b, off, e, fun j u hu => ?_⟩
  have := hc j u hu
  rw [hb.cell (World.block_lt_of_cell? w _ this), this]
theorem RdS.nil {α : Type} (enc : α → List Value) (k : Nat) (w : World) (A : Option Addr) : RdS enc k w A [] := ⟨by simp, fun i x hx => by simp at hx⟩

theorem RdS.seen {w : World} {A : Option Addr} {xs : List PSeen} (h : RdS encSeen 5 w A xs) (i : Nat) (hi : i < xs.length) :
    ∃ b off, A = some ⟨b, off, none⟩ ∧ w.cell? ⟨b, off + i * 5, none⟩ = some (.string xs[i].contact) ∧ w.cell? ⟨b, off + i * 5 + 1, none⟩ = some (.int .i64 xs[i].value.show_) ∧ w.cell? ⟨b, off + i * 5 + 2, none⟩ = some (.int .i64 xs[i].value.prio) ∧ w.cell? ⟨b, off + i * 5 + 3, none⟩ = some (.int .i64 xs[i].value.since) ∧ w.cell? ⟨b, off + i * 5 + 4, none⟩ = some (.string xs[i].value.status) := by
  obtain ⟨b, off, e, hc⟩ := h.2 i xs[i] (List.getElem?_eq_getElem hi)
  exact ⟨b, off, e, hc 0 _ rfl, hc 1 _ rfl, hc 2 _ rfl, hc 3 _ rfl, hc 4 _ rfl⟩

theorem all_next {α : Type} {p : α → Bool} {xs : List α} {k : Nat} (hk : k < xs.length) (h : (xs.take k).all p = true) (hp : p xs[k] = true) : (xs.take (k + 1)).all p = true := by
  rw [List.take_succ_eq_append_getElem hk, List.all_append, h]
  simp [hp]
theorem all_bad {α : Type} {p : α → Bool} {xs : List α} {k : Nat} (hk : k < xs.length) (hp : p xs[k] = false) : xs.all p = false := by
  rw [List.all_eq_false]
  exact ⟨xs[k], List.getElem_mem hk, by simp [hp]⟩
theorem take_next {α : Type} {xs ys : List α} {k : Nat} (hk : k < xs.length) (gk : k < ys.length) (h : xs.take k = ys.take k) (hp : xs[k] = ys[k]) : xs.take (k + 1) = ys.take (k + 1) := by
  rw [List.take_succ_eq_append_getElem hk, List.take_succ_eq_append_getElem gk, h, hp]
theorem take_end {α : Type} {xs ys : List α} {k : Nat} (hl : xs.length = ys.length) (hk : ¬ k < xs.length) (h : xs.take k = ys.take k) : xs = ys := by rwa [List.take_of_length_le (by omega), List.take_of_length_le (by omega)] at h
theorem ne_at {α : Type} {xs ys : List α} {k : Nat} (hk : k < xs.length) (gk : k < ys.length) (hp : ¬ xs[k] = ys[k]) : ¬ xs = ys := fun e => hp (by subst e; rfl)
theorem all_end {α : Type} {p : α → Bool} {xs : List α} {k : Nat} (hk : ¬ k < xs.length) (h : (xs.take k).all p = true) : xs.all p = true := by rwa [List.take_of_length_le (by omega)] at h
end Go.Proofs.Ytialmfbjkegjoaa
