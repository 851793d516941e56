/-
  No cell of these rows narrows 'for every input' (looked for: loops, veiled, ifaces, maps, wideKeys, modest, calm, conditions, laid).
  DERIVED. THE GIVEN ROWS OF THIS SEAT. 3 by the template 'for every input the law returns true; each argument reads behind the call as it read before'; 0 by the template 'total and deterministic' (their statements: YtbgnclkpjajpmaaTotals.lean).
  GIVEN WITH THE SEED: the statements are not yours to turn. If you find one false, say at which input.
  Laid BY PROGRAM, IN A SANDBOX (cutbox-rows.mjs): the forced cells as the released guide's own fill.sh prints them over the translation 51c9146cdb244173… (all of the seat's roots in one cut). By AI agents, Wed Nov 11 2026. No macro, syntax, notation, axiom, sorry.
-/
import Derived.Test.YtbgnclkpjajpmaaChecked
import GoSem.Claim
import GoSem.ClaimJoined
import GoSem.ClaimMapViews
import Derived.JoinedTies
import Derived.KernelRfl
namespace Go.Proofs.Ytbgnclkpjajpmaa
/- THE CELL 'sum', in the pinned program and in every row, IS THE sha256 OF THE DUMP (.gsa) THAT YtbgnclkpjajpmaaProg.lean LOADS. Nothing in Lean hashes anything: it is a label: what it is worth is what the hold of that sum in a sandbox is worth. -/
noncomputable def Try.pinned : Pinned := { name := "ytbgnclkpjajpmaa", sum := "51c9146cdb24417328ceacc0671f3574125aef8b6708ec7f40848dcd7a73b0ee", checked := Try.checked }
namespace Rows
def none {H : Type} : Left H := { results := [], args := [] }

/-- 'stonecroplaw23.PeersLast': WHATEVER THE INPUT: true; the input reads as it did. -/
def peersLastSpec : ChangeSpec := { name := "peersLast", fn := fun _ => fun
  | [d1, d2, d3, d4, d5] => { results := [.lit (.bool true)], args := [d1, d2, d3, d4, d5] }
  | _ => none }
def peersLastRow : OpenClaim := { program := "ytbgnclkpjajpmaa", sum := "51c9146cdb24417328ceacc0671f3574125aef8b6708ec7f40848dcd7a73b0ee", func := "stonecrop/stonecroplaw23.PeersLast", spec := "peersLast", apart := false }
def PeersLastSaid : Prop := peersLastRow.holds Try.pinned (OpenSpec.ofChange peersLastSpec)

/-- ITS FALSE NEIGHBOUR: 'it returns false'. Refute it at one input. -/
def peersLastWrong : ChangeSpec := { name := "peersLast", fn := fun _ => fun
  | [d1, d2, d3, d4, d5] => { results := [.lit (.bool false)], args := [d1, d2, d3, d4, d5] }
  | _ => none }
def PeersLastWrongFalsely : Prop := peersLastRow.holds Try.pinned (OpenSpec.ofChange peersLastWrong)

/-- 'stonecroplaw23.PeersPlays': WHATEVER THE INPUT: true; the input reads as it did. -/
def peersPlaysSpec : ChangeSpec := { name := "peersPlays", fn := fun _ => fun
  | [d1, d2, d3, d4, d5] => { results := [.lit (.bool true)], args := [d1, d2, d3, d4, d5] }
  | _ => none }
def peersPlaysRow : OpenClaim := { program := "ytbgnclkpjajpmaa", sum := "51c9146cdb24417328ceacc0671f3574125aef8b6708ec7f40848dcd7a73b0ee", func := "stonecrop/stonecroplaw23.PeersPlays", spec := "peersPlays", apart := false }
def PeersPlaysSaid : Prop := peersPlaysRow.holds Try.pinned (OpenSpec.ofChange peersPlaysSpec)

/-- ITS FALSE NEIGHBOUR: 'it returns false'. Refute it at one input. -/
def peersPlaysWrong : ChangeSpec := { name := "peersPlays", fn := fun _ => fun
  | [d1, d2, d3, d4, d5] => { results := [.lit (.bool false)], args := [d1, d2, d3, d4, d5] }
  | _ => none }
def PeersPlaysWrongFalsely : Prop := peersPlaysRow.holds Try.pinned (OpenSpec.ofChange peersPlaysWrong)

/-- 'stonecroplaw23.PeersForms': WHATEVER THE INPUT: true; the input reads as it did. -/
def peersFormsSpec : ChangeSpec := { name := "peersForms", fn := fun _ => fun
  | [d1, d2, d3] => { results := [.lit (.bool true)], args := [d1, d2, d3] }
  | _ => none }
def peersFormsRow : OpenClaim := { program := "ytbgnclkpjajpmaa", sum := "51c9146cdb24417328ceacc0671f3574125aef8b6708ec7f40848dcd7a73b0ee", func := "stonecrop/stonecroplaw23.PeersForms", spec := "peersForms", apart := false }
def PeersFormsSaid : Prop := peersFormsRow.holds Try.pinned (OpenSpec.ofChange peersFormsSpec)

/-- ITS FALSE NEIGHBOUR: 'it returns false'. Refute it at one input. -/
def peersFormsWrong : ChangeSpec := { name := "peersForms", fn := fun _ => fun
  | [d1, d2, d3] => { results := [.lit (.bool false)], args := [d1, d2, d3] }
  | _ => none }
def PeersFormsWrongFalsely : Prop := peersFormsRow.holds Try.pinned (OpenSpec.ofChange peersFormsWrong)

/- THE SECOND FORM. 'bulk': how many values and letters a reading holds, each counted each time it is reached (what is shared counts as often as it is met; a slice's spare places count too). A statement '..UptoSaid' is the law's where the arguments, and the package variables that the reading takes, are together of bulk at most 1048576: NARROWER than '..Said'. Prove '..Said' where nothing that the law and all that it calls make is longer than what came in: it says more and counts as full. Else prove '..UptoSaid'. A law counts once. -/
mutual
def uptoBulk {H : Type} : DataW H → Nat
  | .lit (.string bytes) => bytes.length + 1
  | .lit _ => 1
  | .nil => 1
  | .ptr d => uptoBulk d + 1
  | .slice elems spare => uptoBulkAll elems + uptoBulkAll spare + 1
  | .agg parts => uptoBulkAll parts + 1
  | .iface _ d => uptoBulk d + 1
  | .map entries => uptoBulkEntries entries + 1
  | .held _ => 1
def uptoBulkAll {H : Type} : List (DataW H) → Nat
  | [] => 0
  | d :: r => uptoBulk d + uptoBulkAll r
def uptoBulkEntries {H : Type} : List (Lit × DataW H) → Nat
  | [] => 0
  | x :: r => uptoBulkEntry x + uptoBulkEntries r
def uptoBulkEntry {H : Type} : Lit × DataW H → Nat
  | (.string bytes, d) => bytes.length + uptoBulk d + 1
  | (_, d) => uptoBulk d + 1
 end
def uptoSmall : (H : Type) → List (DataW H) → Bool := fun _ ds => decide (uptoBulkAll ds ≤ 1048576)
def OpenSpec.upto (s : _root_.Go.ChangeSpec) : _root_.Go.OpenSpec := { _root_.Go.OpenSpec.ofChange s with cond := some uptoSmall }

/-- 'stonecroplaw23.PeersLast', WHERE WHAT IT READS IS OF BULK AT MOST 1048576: true; the input reads as it did. -/
def peersLastUptoRow : OpenClaim := { program := "ytbgnclkpjajpmaa", sum := "51c9146cdb24417328ceacc0671f3574125aef8b6708ec7f40848dcd7a73b0ee", func := "stonecrop/stonecroplaw23.PeersLast", spec := "peersLast", apart := false, narrowed := true }
def PeersLastUptoSaid : Prop := peersLastUptoRow.holds Try.pinned (OpenSpec.upto peersLastSpec)

/-- 'stonecroplaw23.PeersPlays', WHERE WHAT IT READS IS OF BULK AT MOST 1048576: true; the input reads as it did. -/
def peersPlaysUptoRow : OpenClaim := { program := "ytbgnclkpjajpmaa", sum := "51c9146cdb24417328ceacc0671f3574125aef8b6708ec7f40848dcd7a73b0ee", func := "stonecrop/stonecroplaw23.PeersPlays", spec := "peersPlays", apart := false, narrowed := true }
def PeersPlaysUptoSaid : Prop := peersPlaysUptoRow.holds Try.pinned (OpenSpec.upto peersPlaysSpec)

/-- 'stonecroplaw23.PeersForms', WHERE WHAT IT READS IS OF BULK AT MOST 1048576: true; the input reads as it did. -/
def peersFormsUptoRow : OpenClaim := { program := "ytbgnclkpjajpmaa", sum := "51c9146cdb24417328ceacc0671f3574125aef8b6708ec7f40848dcd7a73b0ee", func := "stonecrop/stonecroplaw23.PeersForms", spec := "peersForms", apart := false, narrowed := true }
def PeersFormsUptoSaid : Prop := peersFormsUptoRow.holds Try.pinned (OpenSpec.upto peersFormsSpec)

end Rows
end Go.Proofs.Ytbgnclkpjajpmaa
