/-
  No cell of these rows narrows 'for every input' (looked for: loops, veiled, ifaces, maps, wideKeys, modest, calm, conditions, laid).
  DERIVED. THE GIVEN ROWS OF THIS SEAT. 10 by the template 'for every input the law returns true; each argument reads behind the call as it read before'; 0 by the template 'total and deterministic' (their statements: YtndkkgkcbbmnpaaTotals.lean).
  GIVEN WITH THE SEED: the statements are not yours to turn. If you find one false, say at which input.
  Laid BY PROGRAM, IN A SANDBOX (cutbox-rows.mjs): the forced cells as the released guide's own fill.sh prints them over the translation 1149c87d31afd975… (all of the seat's roots in one cut). By AI agents, Wed Nov 11 2026. No macro, syntax, notation, axiom, sorry.
-/
import Derived.Test.YtndkkgkcbbmnpaaChecked
import GoSem.Claim
import GoSem.ClaimJoined
import GoSem.ClaimMapViews
import Derived.JoinedTies
import Derived.KernelRfl
namespace Go.Proofs.Ytndkkgkcbbmnpaa
/- THE CELL 'sum', in the pinned program and in every row, IS THE sha256 OF THE DUMP (.gsa) THAT YtndkkgkcbbmnpaaProg.lean LOADS. Nothing in Lean hashes anything: it is a label: what it is worth is what the hold of that sum in a sandbox is worth. -/
noncomputable def Try.pinned : Pinned := { name := "ytndkkgkcbbmnpaa", sum := "1149c87d31afd9751073cba08a67473a4e2d3de6f0c37df6f73fb2487bd19c87", checked := Try.checked }
namespace Rows
def none {H : Type} : Left H := { results := [], args := [] }

/-- 'pergolalaw21.WitnessEncodes': WHATEVER THE INPUT: true; the input reads as it did. -/
def witnessEncodesSpec : ChangeSpec := { name := "witnessEncodes", fn := fun _ => fun
  | [d] => { results := [.lit (.bool true)], args := [d] }
  | _ => none }
def witnessEncodesRow : OpenClaim := { program := "ytndkkgkcbbmnpaa", sum := "1149c87d31afd9751073cba08a67473a4e2d3de6f0c37df6f73fb2487bd19c87", func := "pergola/pergolalaw21.WitnessEncodes", spec := "witnessEncodes", inPlace := ["internal/bytealg.Compare"], recurses := true, plainKeys := false, apart := false }
def WitnessEncodesSaid : Prop := witnessEncodesRow.holds Try.pinned (OpenSpec.ofChange witnessEncodesSpec)

/-- ITS FALSE NEIGHBOUR: 'it returns false'. Refute it at one input. -/
def witnessEncodesWrong : ChangeSpec := { name := "witnessEncodes", fn := fun _ => fun
  | [d] => { results := [.lit (.bool false)], args := [d] }
  | _ => none }
def WitnessEncodesWrongFalsely : Prop := witnessEncodesRow.holds Try.pinned (OpenSpec.ofChange witnessEncodesWrong)

/-- 'pergolalaw21.WitnessDecodes': WHATEVER THE INPUT: true; the input reads as it did. -/
def witnessDecodesSpec : ChangeSpec := { name := "witnessDecodes", fn := fun _ => fun
  | [d] => { results := [.lit (.bool true)], args := [d] }
  | _ => none }
def witnessDecodesRow : OpenClaim := { program := "ytndkkgkcbbmnpaa", sum := "1149c87d31afd9751073cba08a67473a4e2d3de6f0c37df6f73fb2487bd19c87", func := "pergola/pergolalaw21.WitnessDecodes", spec := "witnessDecodes", inPlace := ["internal/bytealg.Compare"], recurses := true, plainKeys := false, apart := false }
def WitnessDecodesSaid : Prop := witnessDecodesRow.holds Try.pinned (OpenSpec.ofChange witnessDecodesSpec)

/-- ITS FALSE NEIGHBOUR: 'it returns false'. Refute it at one input. -/
def witnessDecodesWrong : ChangeSpec := { name := "witnessDecodes", fn := fun _ => fun
  | [d] => { results := [.lit (.bool false)], args := [d] }
  | _ => none }
def WitnessDecodesWrongFalsely : Prop := witnessDecodesRow.holds Try.pinned (OpenSpec.ofChange witnessDecodesWrong)

/-- 'pergolalaw21.WitnessBack': WHATEVER THE INPUT: true; the input reads as it did. -/
def witnessBackSpec : ChangeSpec := { name := "witnessBack", fn := fun _ => fun
  | [d1, d2] => { results := [.lit (.bool true)], args := [d1, d2] }
  | _ => none }
def witnessBackRow : OpenClaim := { program := "ytndkkgkcbbmnpaa", sum := "1149c87d31afd9751073cba08a67473a4e2d3de6f0c37df6f73fb2487bd19c87", func := "pergola/pergolalaw21.WitnessBack", spec := "witnessBack", inPlace := ["internal/bytealg.Compare"], recurses := true, plainKeys := false, apart := false }
def WitnessBackSaid : Prop := witnessBackRow.holds Try.pinned (OpenSpec.ofChange witnessBackSpec)

/-- ITS FALSE NEIGHBOUR: 'it returns false'. Refute it at one input. -/
def witnessBackWrong : ChangeSpec := { name := "witnessBack", fn := fun _ => fun
  | [d1, d2] => { results := [.lit (.bool false)], args := [d1, d2] }
  | _ => none }
def WitnessBackWrongFalsely : Prop := witnessBackRow.holds Try.pinned (OpenSpec.ofChange witnessBackWrong)

/-- 'pergolalaw19.BlockEncodes': WHATEVER THE INPUT: true; the input reads as it did. -/
def blockEncodesSpec : ChangeSpec := { name := "blockEncodes", fn := fun _ => fun
  | [d] => { results := [.lit (.bool true)], args := [d] }
  | _ => none }
def blockEncodesRow : OpenClaim := { program := "ytndkkgkcbbmnpaa", sum := "1149c87d31afd9751073cba08a67473a4e2d3de6f0c37df6f73fb2487bd19c87", func := "pergola/pergolalaw19.BlockEncodes", spec := "blockEncodes", recurses := true, plainKeys := false, apart := false }
def BlockEncodesSaid : Prop := blockEncodesRow.holds Try.pinned (OpenSpec.ofChange blockEncodesSpec)

/-- ITS FALSE NEIGHBOUR: 'it returns false'. Refute it at one input. -/
def blockEncodesWrong : ChangeSpec := { name := "blockEncodes", fn := fun _ => fun
  | [d] => { results := [.lit (.bool false)], args := [d] }
  | _ => none }
def BlockEncodesWrongFalsely : Prop := blockEncodesRow.holds Try.pinned (OpenSpec.ofChange blockEncodesWrong)

/-- 'pergolalaw19.BlockDecodes': WHATEVER THE INPUT: true; the input reads as it did. -/
def blockDecodesSpec : ChangeSpec := { name := "blockDecodes", fn := fun _ => fun
  | [d] => { results := [.lit (.bool true)], args := [d] }
  | _ => none }
def blockDecodesRow : OpenClaim := { program := "ytndkkgkcbbmnpaa", sum := "1149c87d31afd9751073cba08a67473a4e2d3de6f0c37df6f73fb2487bd19c87", func := "pergola/pergolalaw19.BlockDecodes", spec := "blockDecodes", recurses := true, plainKeys := false, apart := false }
def BlockDecodesSaid : Prop := blockDecodesRow.holds Try.pinned (OpenSpec.ofChange blockDecodesSpec)

/-- ITS FALSE NEIGHBOUR: 'it returns false'. Refute it at one input. -/
def blockDecodesWrong : ChangeSpec := { name := "blockDecodes", fn := fun _ => fun
  | [d] => { results := [.lit (.bool false)], args := [d] }
  | _ => none }
def BlockDecodesWrongFalsely : Prop := blockDecodesRow.holds Try.pinned (OpenSpec.ofChange blockDecodesWrong)

/-- 'pergolalaw19.BlockHeaders': WHATEVER THE INPUT: true; the input reads as it did. -/
def blockHeadersSpec : ChangeSpec := { name := "blockHeaders", fn := fun _ => fun
  | [d1, d2] => { results := [.lit (.bool true)], args := [d1, d2] }
  | _ => none }
def blockHeadersRow : OpenClaim := { program := "ytndkkgkcbbmnpaa", sum := "1149c87d31afd9751073cba08a67473a4e2d3de6f0c37df6f73fb2487bd19c87", func := "pergola/pergolalaw19.BlockHeaders", spec := "blockHeaders", recurses := true, plainKeys := false, apart := false }
def BlockHeadersSaid : Prop := blockHeadersRow.holds Try.pinned (OpenSpec.ofChange blockHeadersSpec)

/-- ITS FALSE NEIGHBOUR: 'it returns false'. Refute it at one input. -/
def blockHeadersWrong : ChangeSpec := { name := "blockHeaders", fn := fun _ => fun
  | [d1, d2] => { results := [.lit (.bool false)], args := [d1, d2] }
  | _ => none }
def BlockHeadersWrongFalsely : Prop := blockHeadersRow.holds Try.pinned (OpenSpec.ofChange blockHeadersWrong)

/-- 'pergolalaw19.BlockBack': WHATEVER THE INPUT: true; the input reads as it did. -/
def blockBackSpec : ChangeSpec := { name := "blockBack", fn := fun _ => fun
  | [d1, d2, d3] => { results := [.lit (.bool true)], args := [d1, d2, d3] }
  | _ => none }
def blockBackRow : OpenClaim := { program := "ytndkkgkcbbmnpaa", sum := "1149c87d31afd9751073cba08a67473a4e2d3de6f0c37df6f73fb2487bd19c87", func := "pergola/pergolalaw19.BlockBack", spec := "blockBack", recurses := true, plainKeys := false, apart := false }
def BlockBackSaid : Prop := blockBackRow.holds Try.pinned (OpenSpec.ofChange blockBackSpec)

/-- ITS FALSE NEIGHBOUR: 'it returns false'. Refute it at one input. -/
def blockBackWrong : ChangeSpec := { name := "blockBack", fn := fun _ => fun
  | [d1, d2, d3] => { results := [.lit (.bool false)], args := [d1, d2, d3] }
  | _ => none }
def BlockBackWrongFalsely : Prop := blockBackRow.holds Try.pinned (OpenSpec.ofChange blockBackWrong)

/-- 'pergolalaw23.ExtractClash': WHATEVER THE INPUT: true; the input reads as it did. -/
def extractClashSpec : ChangeSpec := { name := "extractClash", fn := fun _ => fun
  | [d] => { results := [.lit (.bool true)], args := [d] }
  | _ => none }
def extractClashRow : OpenClaim := { program := "ytndkkgkcbbmnpaa", sum := "1149c87d31afd9751073cba08a67473a4e2d3de6f0c37df6f73fb2487bd19c87", func := "pergola/pergolalaw23.ExtractClash", spec := "extractClash", inPlace := ["internal/bytealg.Compare", "internal/reflectlite.ValueOf", "internal/reflectlite.Swapper", "(internal/reflectlite.Value).Len"], unfollowed := true, recurses := true, plainKeys := false, apart := false }
def ExtractClashSaid : Prop := extractClashRow.holds Try.pinned (OpenSpec.ofChange extractClashSpec)

/-- ITS FALSE NEIGHBOUR: 'it returns false'. Refute it at one input. -/
def extractClashWrong : ChangeSpec := { name := "extractClash", fn := fun _ => fun
  | [d] => { results := [.lit (.bool false)], args := [d] }
  | _ => none }
def ExtractClashWrongFalsely : Prop := extractClashRow.holds Try.pinned (OpenSpec.ofChange extractClashWrong)

/-- 'pergolalaw23.ExtractFound': WHATEVER THE INPUT: true; the input reads as it did. -/
def extractFoundSpec : ChangeSpec := { name := "extractFound", fn := fun _ => fun
  | [d1, d2] => { results := [.lit (.bool true)], args := [d1, d2] }
  | _ => none }
def extractFoundRow : OpenClaim := { program := "ytndkkgkcbbmnpaa", sum := "1149c87d31afd9751073cba08a67473a4e2d3de6f0c37df6f73fb2487bd19c87", func := "pergola/pergolalaw23.ExtractFound", spec := "extractFound", inPlace := ["internal/bytealg.Compare", "internal/reflectlite.ValueOf", "internal/reflectlite.Swapper", "(internal/reflectlite.Value).Len"], unfollowed := true, recurses := true, plainKeys := false, apart := false }
def ExtractFoundSaid : Prop := extractFoundRow.holds Try.pinned (OpenSpec.ofChange extractFoundSpec)

/-- ITS FALSE NEIGHBOUR: 'it returns false'. Refute it at one input. -/
def extractFoundWrong : ChangeSpec := { name := "extractFound", fn := fun _ => fun
  | [d1, d2] => { results := [.lit (.bool false)], args := [d1, d2] }
  | _ => none }
def ExtractFoundWrongFalsely : Prop := extractFoundRow.holds Try.pinned (OpenSpec.ofChange extractFoundWrong)

/-- 'pergolalaw23.ExtractTold': WHATEVER THE INPUT: true; the input reads as it did. -/
def extractToldSpec : ChangeSpec := { name := "extractTold", fn := fun _ => fun
  | [d] => { results := [.lit (.bool true)], args := [d] }
  | _ => none }
def extractToldRow : OpenClaim := { program := "ytndkkgkcbbmnpaa", sum := "1149c87d31afd9751073cba08a67473a4e2d3de6f0c37df6f73fb2487bd19c87", func := "pergola/pergolalaw23.ExtractTold", spec := "extractTold", inPlace := ["internal/bytealg.Compare", "internal/reflectlite.ValueOf", "internal/reflectlite.Swapper", "(internal/reflectlite.Value).Len"], unfollowed := true, recurses := true, plainKeys := false, apart := false }
def ExtractToldSaid : Prop := extractToldRow.holds Try.pinned (OpenSpec.ofChange extractToldSpec)

/-- ITS FALSE NEIGHBOUR: 'it returns false'. Refute it at one input. -/
def extractToldWrong : ChangeSpec := { name := "extractTold", fn := fun _ => fun
  | [d] => { results := [.lit (.bool false)], args := [d] }
  | _ => none }
def ExtractToldWrongFalsely : Prop := extractToldRow.holds Try.pinned (OpenSpec.ofChange extractToldWrong)

/- THE SECOND FORM. 'bulk': how many values and letters a reading holds, each counted each time it is reached (what is shared counts as often as it is met; a slice's spare places count too). A statement '..UptoSaid' is the law's where the arguments, and the package variables that the reading takes, are together of bulk at most 1048576: NARROWER than '..Said'. Prove '..Said' where nothing that the law and all that it calls make is longer than what came in: it says more and counts as full. Else prove '..UptoSaid'. A law counts once. -/
mutual
def uptoBulk {H : Type} : DataW H → Nat
  | .lit (.string bytes) => bytes.length + 1
  | .lit _ => 1
  | .nil => 1
  | .ptr d => uptoBulk d + 1
  | .slice elems spare => uptoBulkAll elems + uptoBulkAll spare + 1
  | .agg parts => uptoBulkAll parts + 1
  | .iface _ d => uptoBulk d + 1
  | .map entries => uptoBulkEntries entries + 1
  | .held _ => 1
def uptoBulkAll {H : Type} : List (DataW H) → Nat
  | [] => 0
  | d :: r => uptoBulk d + uptoBulkAll r
def uptoBulkEntries {H : Type} : List (Lit × DataW H) → Nat
  | [] => 0
  | x :: r => uptoBulkEntry x + uptoBulkEntries r
def uptoBulkEntry {H : Type} : Lit × DataW H → Nat
  | (.string bytes, d) => bytes.length + uptoBulk d + 1
  | (_, d) => uptoBulk d + 1
 end
def uptoSmall : (H : Type) → List (DataW H) → Bool := fun _ ds => decide (uptoBulkAll ds ≤ 1048576)
def OpenSpec.upto (s : _root_.Go.ChangeSpec) : _root_.Go.OpenSpec := { _root_.Go.OpenSpec.ofChange s with cond := some uptoSmall }

/-- 'pergolalaw21.WitnessEncodes', WHERE WHAT IT READS IS OF BULK AT MOST 1048576: true; the input reads as it did. -/
def witnessEncodesUptoRow : OpenClaim := { program := "ytndkkgkcbbmnpaa", sum := "1149c87d31afd9751073cba08a67473a4e2d3de6f0c37df6f73fb2487bd19c87", func := "pergola/pergolalaw21.WitnessEncodes", spec := "witnessEncodes", inPlace := ["internal/bytealg.Compare"], recurses := true, plainKeys := false, apart := false, narrowed := true }
def WitnessEncodesUptoSaid : Prop := witnessEncodesUptoRow.holds Try.pinned (OpenSpec.upto witnessEncodesSpec)

/-- 'pergolalaw21.WitnessDecodes', WHERE WHAT IT READS IS OF BULK AT MOST 1048576: true; the input reads as it did. -/
def witnessDecodesUptoRow : OpenClaim := { program := "ytndkkgkcbbmnpaa", sum := "1149c87d31afd9751073cba08a67473a4e2d3de6f0c37df6f73fb2487bd19c87", func := "pergola/pergolalaw21.WitnessDecodes", spec := "witnessDecodes", inPlace := ["internal/bytealg.Compare"], recurses := true, plainKeys := false, apart := false, narrowed := true }
def WitnessDecodesUptoSaid : Prop := witnessDecodesUptoRow.holds Try.pinned (OpenSpec.upto witnessDecodesSpec)

/-- 'pergolalaw21.WitnessBack', WHERE WHAT IT READS IS OF BULK AT MOST 1048576: true; the input reads as it did. -/
def witnessBackUptoRow : OpenClaim := { program := "ytndkkgkcbbmnpaa", sum := "1149c87d31afd9751073cba08a67473a4e2d3de6f0c37df6f73fb2487bd19c87", func := "pergola/pergolalaw21.WitnessBack", spec := "witnessBack", inPlace := ["internal/bytealg.Compare"], recurses := true, plainKeys := false, apart := false, narrowed := true }
def WitnessBackUptoSaid : Prop := witnessBackUptoRow.holds Try.pinned (OpenSpec.upto witnessBackSpec)

/-- 'pergolalaw19.BlockEncodes', WHERE WHAT IT READS IS OF BULK AT MOST 1048576: true; the input reads as it did. -/
def blockEncodesUptoRow : OpenClaim := { program := "ytndkkgkcbbmnpaa", sum := "1149c87d31afd9751073cba08a67473a4e2d3de6f0c37df6f73fb2487bd19c87", func := "pergola/pergolalaw19.BlockEncodes", spec := "blockEncodes", recurses := true, plainKeys := false, apart := false, narrowed := true }
def BlockEncodesUptoSaid : Prop := blockEncodesUptoRow.holds Try.pinned (OpenSpec.upto blockEncodesSpec)

/-- 'pergolalaw19.BlockDecodes', WHERE WHAT IT READS IS OF BULK AT MOST 1048576: true; the input reads as it did. -/
def blockDecodesUptoRow : OpenClaim := { program := "ytndkkgkcbbmnpaa", sum := "1149c87d31afd9751073cba08a67473a4e2d3de6f0c37df6f73fb2487bd19c87", func := "pergola/pergolalaw19.BlockDecodes", spec := "blockDecodes", recurses := true, plainKeys := false, apart := false, narrowed := true }
def BlockDecodesUptoSaid : Prop := blockDecodesUptoRow.holds Try.pinned (OpenSpec.upto blockDecodesSpec)

/-- 'pergolalaw19.BlockHeaders', WHERE WHAT IT READS IS OF BULK AT MOST 1048576: true; the input reads as it did. -/
def blockHeadersUptoRow : OpenClaim := { program := "ytndkkgkcbbmnpaa", sum := "1149c87d31afd9751073cba08a67473a4e2d3de6f0c37df6f73fb2487bd19c87", func := "pergola/pergolalaw19.BlockHeaders", spec := "blockHeaders", recurses := true, plainKeys := false, apart := false, narrowed := true }
def BlockHeadersUptoSaid : Prop := blockHeadersUptoRow.holds Try.pinned (OpenSpec.upto blockHeadersSpec)

/-- 'pergolalaw19.BlockBack', WHERE WHAT IT READS IS OF BULK AT MOST 1048576: true; the input reads as it did. -/
def blockBackUptoRow : OpenClaim := { program := "ytndkkgkcbbmnpaa", sum := "1149c87d31afd9751073cba08a67473a4e2d3de6f0c37df6f73fb2487bd19c87", func := "pergola/pergolalaw19.BlockBack", spec := "blockBack", recurses := true, plainKeys := false, apart := false, narrowed := true }
def BlockBackUptoSaid : Prop := blockBackUptoRow.holds Try.pinned (OpenSpec.upto blockBackSpec)

/-- 'pergolalaw23.ExtractClash', WHERE WHAT IT READS IS OF BULK AT MOST 1048576: true; the input reads as it did. -/
def extractClashUptoRow : OpenClaim := { program := "ytndkkgkcbbmnpaa", sum := "1149c87d31afd9751073cba08a67473a4e2d3de6f0c37df6f73fb2487bd19c87", func := "pergola/pergolalaw23.ExtractClash", spec := "extractClash", inPlace := ["internal/bytealg.Compare", "internal/reflectlite.ValueOf", "internal/reflectlite.Swapper", "(internal/reflectlite.Value).Len"], unfollowed := true, recurses := true, plainKeys := false, apart := false, narrowed := true }
def ExtractClashUptoSaid : Prop := extractClashUptoRow.holds Try.pinned (OpenSpec.upto extractClashSpec)

/-- 'pergolalaw23.ExtractFound', WHERE WHAT IT READS IS OF BULK AT MOST 1048576: true; the input reads as it did. -/
def extractFoundUptoRow : OpenClaim := { program := "ytndkkgkcbbmnpaa", sum := "1149c87d31afd9751073cba08a67473a4e2d3de6f0c37df6f73fb2487bd19c87", func := "pergola/pergolalaw23.ExtractFound", spec := "extractFound", inPlace := ["internal/bytealg.Compare", "internal/reflectlite.ValueOf", "internal/reflectlite.Swapper", "(internal/reflectlite.Value).Len"], unfollowed := true, recurses := true, plainKeys := false, apart := false, narrowed := true }
def ExtractFoundUptoSaid : Prop := extractFoundUptoRow.holds Try.pinned (OpenSpec.upto extractFoundSpec)

/-- 'pergolalaw23.ExtractTold', WHERE WHAT IT READS IS OF BULK AT MOST 1048576: true; the input reads as it did. -/
def extractToldUptoRow : OpenClaim := { program := "ytndkkgkcbbmnpaa", sum := "1149c87d31afd9751073cba08a67473a4e2d3de6f0c37df6f73fb2487bd19c87", func := "pergola/pergolalaw23.ExtractTold", spec := "extractTold", inPlace := ["internal/bytealg.Compare", "internal/reflectlite.ValueOf", "internal/reflectlite.Swapper", "(internal/reflectlite.Value).Len"], unfollowed := true, recurses := true, plainKeys := false, apart := false, narrowed := true }
def ExtractToldUptoSaid : Prop := extractToldUptoRow.holds Try.pinned (OpenSpec.upto extractToldSpec)

end Rows
end Go.Proofs.Ytndkkgkcbbmnpaa
