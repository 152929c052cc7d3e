/-
  No cell of these rows narrows 'for every input' (looked for: loops, veiled, ifaces, maps, wideKeys, modest, calm, conditions, laid).
  DERIVED. THE GIVEN ROWS OF THIS SEAT. 3 by the template 'for every input the law returns true; each argument reads behind the call as it read before'; 0 by the template 'total and deterministic' (their statements: YtialmfbjkegjoaaTotals.lean).
  GIVEN WITH THE SEED: the statements are not yours to turn. If you find one false, say at which input.
  Laid BY PROGRAM, IN A SANDBOX (cutbox-rows.mjs): the forced cells as the released guide's own fill.sh prints them over the translation 3004096fb35d8fd4… (all of the seat's roots in one cut). By AI agents, Wed Nov 11 2026. No macro, syntax, notation, axiom, sorry.
-/
import Derived.Test.YtialmfbjkegjoaaChecked
import GoSem.Claim
import GoSem.ClaimJoined
import GoSem.ClaimMapViews
import Derived.JoinedTies
import Derived.KernelRfl
namespace Go.Proofs.Ytialmfbjkegjoaa
/- THE CELL 'sum', in the pinned program and in every row, IS THE sha256 OF THE DUMP (.gsa) THAT YtialmfbjkegjoaaProg.lean LOADS. Nothing in Lean hashes anything: it is a label: what it is worth is what the hold of that sum in a sandbox is worth. -/
noncomputable def Try.pinned : Pinned := { name := "ytialmfbjkegjoaa", sum := "3004096fb35d8fd4215253eab6893cd76094d24fc448847ca0e6ea8e982ac71d", checked := Try.checked }
namespace Rows
def none {H : Type} : Left H := { results := [], args := [] }

/-- 'rollcalllaw05.DigestTwo': WHATEVER THE INPUT: true; the input reads as it did. -/
def digestTwoSpec : ChangeSpec := { name := "digestTwo", fn := fun _ => fun
  | [d1, d2, d3] => { results := [.lit (.bool true)], args := [d1, d2, d3] }
  | _ => none }
def digestTwoRow : OpenClaim := { program := "ytialmfbjkegjoaa", sum := "3004096fb35d8fd4215253eab6893cd76094d24fc448847ca0e6ea8e982ac71d", func := "rollcall/rollcalllaw05.DigestTwo", spec := "digestTwo", inPlace := ["internal/bytealg.abigen_runtime_cmpstring", "internal/abi.NoEscape", "slices.overlaps[rollcall/api.Seen]"], unfollowed := true, recurses := true, plainKeys := false, apart := false }
def DigestTwoSaid : Prop := digestTwoRow.holds Try.pinned (OpenSpec.ofChange digestTwoSpec)

/-- ITS FALSE NEIGHBOUR: 'it returns false'. Refute it at one input. -/
def digestTwoWrong : ChangeSpec := { name := "digestTwo", fn := fun _ => fun
  | [d1, d2, d3] => { results := [.lit (.bool false)], args := [d1, d2, d3] }
  | _ => none }
def DigestTwoWrongFalsely : Prop := digestTwoRow.holds Try.pinned (OpenSpec.ofChange digestTwoWrong)

/-- 'rollcalllaw13.IndexKept': WHATEVER THE INPUT: true; the input reads as it did. -/
def indexKeptSpec : ChangeSpec := { name := "indexKept", fn := fun _ => fun
  | [d1, d2] => { results := [.lit (.bool true)], args := [d1, d2] }
  | _ => none }
def indexKeptRow : OpenClaim := { program := "ytialmfbjkegjoaa", sum := "3004096fb35d8fd4215253eab6893cd76094d24fc448847ca0e6ea8e982ac71d", func := "rollcall/rollcalllaw13.IndexKept", spec := "indexKept", inPlace := ["internal/bytealg.abigen_runtime_cmpstring", "slices.overlaps[rollcall/api.Entry]"], unfollowed := true, recurses := true, plainKeys := false, apart := false }
def IndexKeptSaid : Prop := indexKeptRow.holds Try.pinned (OpenSpec.ofChange indexKeptSpec)

/-- ITS FALSE NEIGHBOUR: 'it returns false'. Refute it at one input. -/
def indexKeptWrong : ChangeSpec := { name := "indexKept", fn := fun _ => fun
  | [d1, d2] => { results := [.lit (.bool false)], args := [d1, d2] }
  | _ => none }
def IndexKeptWrongFalsely : Prop := indexKeptRow.holds Try.pinned (OpenSpec.ofChange indexKeptWrong)

/-- 'rollcalllaw14.StateParts': WHATEVER THE INPUT: true; the input reads as it did. -/
def statePartsSpec : ChangeSpec := { name := "stateParts", fn := fun _ => fun
  | [d1, d2] => { results := [.lit (.bool true)], args := [d1, d2] }
  | _ => none }
def statePartsRow : OpenClaim := { program := "ytialmfbjkegjoaa", sum := "3004096fb35d8fd4215253eab6893cd76094d24fc448847ca0e6ea8e982ac71d", func := "rollcall/rollcalllaw14.StateParts", spec := "stateParts", inPlace := ["internal/bytealg.abigen_runtime_cmpstring", "slices.overlaps[rollcall/api.Entry]", "slices.overlaps[rollcall/api.Session]"], unfollowed := true, recurses := true, plainKeys := false, apart := false }
def StatePartsSaid : Prop := statePartsRow.holds Try.pinned (OpenSpec.ofChange statePartsSpec)

/-- ITS FALSE NEIGHBOUR: 'it returns false'. Refute it at one input. -/
def statePartsWrong : ChangeSpec := { name := "stateParts", fn := fun _ => fun
  | [d1, d2] => { results := [.lit (.bool false)], args := [d1, d2] }
  | _ => none }
def StatePartsWrongFalsely : Prop := statePartsRow.holds Try.pinned (OpenSpec.ofChange statePartsWrong)

/- THE SECOND FORM. 'bulk': how many values and letters a reading holds, each counted each time it is reached (what is shared counts as often as it is met; a slice's spare places count too). A statement '..UptoSaid' is the law's where the arguments, and the package variables that the reading takes, are together of bulk at most 1048576: NARROWER than '..Said'. Prove '..Said' where nothing that the law and all that it calls make is longer than what came in: it says more and counts as full. Else prove '..UptoSaid'. A law counts once. -/
mutual
def uptoBulk {H : Type} : DataW H → Nat
  | .lit (.string bytes) => bytes.length + 1
  | .lit _ => 1
  | .nil => 1
  | .ptr d => uptoBulk d + 1
  | .slice elems spare => uptoBulkAll elems + uptoBulkAll spare + 1
  | .agg parts => uptoBulkAll parts + 1
  | .iface _ d => uptoBulk d + 1
  | .map entries => uptoBulkEntries entries + 1
  | .held _ => 1
def uptoBulkAll {H : Type} : List (DataW H) → Nat
  | [] => 0
  | d :: r => uptoBulk d + uptoBulkAll r
def uptoBulkEntries {H : Type} : List (Lit × DataW H) → Nat
  | [] => 0
  | x :: r => uptoBulkEntry x + uptoBulkEntries r
def uptoBulkEntry {H : Type} : Lit × DataW H → Nat
  | (.string bytes, d) => bytes.length + uptoBulk d + 1
  | (_, d) => uptoBulk d + 1
 end
def uptoSmall : (H : Type) → List (DataW H) → Bool := fun _ ds => decide (uptoBulkAll ds ≤ 1048576)
def OpenSpec.upto (s : _root_.Go.ChangeSpec) : _root_.Go.OpenSpec := { _root_.Go.OpenSpec.ofChange s with cond := some uptoSmall }

/-- 'rollcalllaw05.DigestTwo', WHERE WHAT IT READS IS OF BULK AT MOST 1048576: true; the input reads as it did. -/
def digestTwoUptoRow : OpenClaim := { program := "ytialmfbjkegjoaa", sum := "3004096fb35d8fd4215253eab6893cd76094d24fc448847ca0e6ea8e982ac71d", func := "rollcall/rollcalllaw05.DigestTwo", spec := "digestTwo", inPlace := ["internal/bytealg.abigen_runtime_cmpstring", "internal/abi.NoEscape", "slices.overlaps[rollcall/api.Seen]"], unfollowed := true, recurses := true, plainKeys := false, apart := false, narrowed := true }
def DigestTwoUptoSaid : Prop := digestTwoUptoRow.holds Try.pinned (OpenSpec.upto digestTwoSpec)

/-- 'rollcalllaw13.IndexKept', WHERE WHAT IT READS IS OF BULK AT MOST 1048576: true; the input reads as it did. -/
def indexKeptUptoRow : OpenClaim := { program := "ytialmfbjkegjoaa", sum := "3004096fb35d8fd4215253eab6893cd76094d24fc448847ca0e6ea8e982ac71d", func := "rollcall/rollcalllaw13.IndexKept", spec := "indexKept", inPlace := ["internal/bytealg.abigen_runtime_cmpstring", "slices.overlaps[rollcall/api.Entry]"], unfollowed := true, recurses := true, plainKeys := false, apart := false, narrowed := true }
def IndexKeptUptoSaid : Prop := indexKeptUptoRow.holds Try.pinned (OpenSpec.upto indexKeptSpec)

/-- 'rollcalllaw14.StateParts', WHERE WHAT IT READS IS OF BULK AT MOST 1048576: true; the input reads as it did. -/
def statePartsUptoRow : OpenClaim := { program := "ytialmfbjkegjoaa", sum := "3004096fb35d8fd4215253eab6893cd76094d24fc448847ca0e6ea8e982ac71d", func := "rollcall/rollcalllaw14.StateParts", spec := "stateParts", inPlace := ["internal/bytealg.abigen_runtime_cmpstring", "slices.overlaps[rollcall/api.Entry]", "slices.overlaps[rollcall/api.Session]"], unfollowed := true, recurses := true, plainKeys := false, apart := false, narrowed := true }
def StatePartsUptoSaid : Prop := statePartsUptoRow.holds Try.pinned (OpenSpec.upto statePartsSpec)

end Rows
end Go.Proofs.Ytialmfbjkegjoaa
