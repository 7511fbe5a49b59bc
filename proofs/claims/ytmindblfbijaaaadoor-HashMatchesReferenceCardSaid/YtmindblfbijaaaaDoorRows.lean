/-
  NARROWER THAN 'FOR EVERY INPUT', by the rows' own cells (each row's printed sentence says how): HashMatchesReference: laid · HashProofs: laid · HashBinds: laid · HashParts: laid · HashPlaces: laid · HashNeighbors: laid · HashBytes: laid.
  DERIVED. THE GIVEN ROWS OF THIS SEAT. 7 by the template 'for every input the law returns true; each argument reads behind the call as it read before'; 0 by the template 'total and deterministic' (their statements: YtmindblfbijaaaaDoorTotals.lean).
  GIVEN WITH THE SEED: the statements are not yours to turn. If you find one false, say at which input.
  Laid BY PROGRAM, IN A SANDBOX (cutbox-rows.mjs): the forced cells as the released guide's own fill.sh prints them over the translation ef5b001b452e5dd4… (all of the seat's roots in one cut). By AI agents, Wed Nov 11 2026. No macro, syntax, notation, axiom, sorry.
-/
import Derived.Test.YtmindblfbijaaaaDoorChecked
import GoSem.Claim
import GoSem.ClaimJoined
import GoSem.ClaimMapViews
import Derived.JoinedTies
import Derived.KernelRfl
namespace Go.Proofs.YtmindblfbijaaaaDoor
/- THE CELL 'sum', in the pinned program and in every row, IS THE sha256 OF THE DUMP (.gsa) THAT YtmindblfbijaaaaDoorProg.lean LOADS. Nothing in Lean hashes anything: it is a label: what it is worth is what the hold of that sum in a sandbox is worth. -/
noncomputable def Tryd.pinned : Pinned := { name := "ytmindblfbijaaaadoor", sum := "ef5b001b452e5dd459443b01c4c9bb4b39347edfedd94fce84e41f0eaae38eaf", checked := Tryd.checked }
namespace Rows
def none {H : Type} : Left H := { results := [], args := [] }

/- WHAT THE LISTED PACKAGE-LEVEL VARIABLES READ AS WHEN THE CALL BEGINS. Each datum BY PROGRAM (the guide's laid-datum.mjs) off the statement by which the dump's own 'gosem.cut.vars' lays the variable. In a bare row this is a premise. The card (YtmindblfbijaaaaDoorCards.lean) ties it to the program's text. -/
def laid_skewer_hash_begin {H : Type} : DataW H := .agg [.lit (.int .u32 1779033703), .lit (.int .u32 3144134277), .lit (.int .u32 1013904242), .lit (.int .u32 2773480762), .lit (.int .u32 1359893119), .lit (.int .u32 2600822924), .lit (.int .u32 528734635), .lit (.int .u32 1541459225)]
def laid_skewer_hash_keys {H : Type} : DataW H := .agg [.lit (.int .u32 1116352408), .lit (.int .u32 1899447441), .lit (.int .u32 3049323471), .lit (.int .u32 3921009573), .lit (.int .u32 961987163), .lit (.int .u32 1508970993), .lit (.int .u32 2453635748), .lit (.int .u32 2870763221), .lit (.int .u32 3624381080), .lit (.int .u32 310598401), .lit (.int .u32 607225278), .lit (.int .u32 1426881987), .lit (.int .u32 1925078388), .lit (.int .u32 2162078206), .lit (.int .u32 2614888103), .lit (.int .u32 3248222580), .lit (.int .u32 3835390401), .lit (.int .u32 4022224774), .lit (.int .u32 264347078), .lit (.int .u32 604807628), .lit (.int .u32 770255983), .lit (.int .u32 1249150122), .lit (.int .u32 1555081692), .lit (.int .u32 1996064986), .lit (.int .u32 2554220882), .lit (.int .u32 2821834349), .lit (.int .u32 2952996808), .lit (.int .u32 3210313671), .lit (.int .u32 3336571891), .lit (.int .u32 3584528711), .lit (.int .u32 113926993), .lit (.int .u32 338241895), .lit (.int .u32 666307205), .lit (.int .u32 773529912), .lit (.int .u32 1294757372), .lit (.int .u32 1396182291), .lit (.int .u32 1695183700), .lit (.int .u32 1986661051), .lit (.int .u32 2177026350), .lit (.int .u32 2456956037), .lit (.int .u32 2730485921), .lit (.int .u32 2820302411), .lit (.int .u32 3259730800), .lit (.int .u32 3345764771), .lit (.int .u32 3516065817), .lit (.int .u32 3600352804), .lit (.int .u32 4094571909), .lit (.int .u32 275423344), .lit (.int .u32 430227734), .lit (.int .u32 506948616), .lit (.int .u32 659060556), .lit (.int .u32 883997877), .lit (.int .u32 958139571), .lit (.int .u32 1322822218), .lit (.int .u32 1537002063), .lit (.int .u32 1747873779), .lit (.int .u32 1955562222), .lit (.int .u32 2024104815), .lit (.int .u32 2227730452), .lit (.int .u32 2361852424), .lit (.int .u32 2428436474), .lit (.int .u32 2756734187), .lit (.int .u32 3204031479), .lit (.int .u32 3329325298)]

/-- 'skewerlaw16.HashMatchesReference': WHATEVER THE INPUT: true; the input reads as it did. -/
def hashMatchesReferenceSpec : ChangeSpec := { name := "hashMatchesReference", fn := fun _ => fun
  | [d1, d2, d3] => { results := [.lit (.bool true)], args := [d1, d2, d3] }
  | _ => none }
def hashMatchesReferenceRow : OpenClaim := { program := "ytmindblfbijaaaadoor", sum := "ef5b001b452e5dd459443b01c4c9bb4b39347edfedd94fce84e41f0eaae38eaf", func := "skewer/skewerlaw16.HashMatchesReference", spec := "hashMatchesReference", unfollowed := true, recurses := true, named := ["skewer/hash.begin", "skewer/hash.keys"], apart := false, laid := [("skewer/hash.begin", laid_skewer_hash_begin), ("skewer/hash.keys", laid_skewer_hash_keys)] }
def HashMatchesReferenceSaid : Prop := hashMatchesReferenceRow.holds Tryd.pinned (OpenSpec.ofChange hashMatchesReferenceSpec)

/-- ITS FALSE NEIGHBOUR: 'it returns false'. Refute it at one input. -/
def hashMatchesReferenceWrong : ChangeSpec := { name := "hashMatchesReference", fn := fun _ => fun
  | [d1, d2, d3] => { results := [.lit (.bool false)], args := [d1, d2, d3] }
  | _ => none }
def HashMatchesReferenceWrongFalsely : Prop := hashMatchesReferenceRow.holds Tryd.pinned (OpenSpec.ofChange hashMatchesReferenceWrong)

/-- 'skewerlaw16.HashProofs': WHATEVER THE INPUT: true; the input reads as it did. -/
def hashProofsSpec : ChangeSpec := { name := "hashProofs", fn := fun _ => fun
  | [d1, d2] => { results := [.lit (.bool true)], args := [d1, d2] }
  | _ => none }
def hashProofsRow : OpenClaim := { program := "ytmindblfbijaaaadoor", sum := "ef5b001b452e5dd459443b01c4c9bb4b39347edfedd94fce84e41f0eaae38eaf", func := "skewer/skewerlaw16.HashProofs", spec := "hashProofs", unfollowed := true, recurses := true, named := ["skewer/hash.begin", "skewer/hash.keys"], apart := false, laid := [("skewer/hash.begin", laid_skewer_hash_begin), ("skewer/hash.keys", laid_skewer_hash_keys)] }
def HashProofsSaid : Prop := hashProofsRow.holds Tryd.pinned (OpenSpec.ofChange hashProofsSpec)

/-- ITS FALSE NEIGHBOUR: 'it returns false'. Refute it at one input. -/
def hashProofsWrong : ChangeSpec := { name := "hashProofs", fn := fun _ => fun
  | [d1, d2] => { results := [.lit (.bool false)], args := [d1, d2] }
  | _ => none }
def HashProofsWrongFalsely : Prop := hashProofsRow.holds Tryd.pinned (OpenSpec.ofChange hashProofsWrong)

/-- 'skewerlaw16.HashBinds': WHATEVER THE INPUT: true; the input reads as it did. -/
def hashBindsSpec : ChangeSpec := { name := "hashBinds", fn := fun _ => fun
  | [d1, d2, d3] => { results := [.lit (.bool true)], args := [d1, d2, d3] }
  | _ => none }
def hashBindsRow : OpenClaim := { program := "ytmindblfbijaaaadoor", sum := "ef5b001b452e5dd459443b01c4c9bb4b39347edfedd94fce84e41f0eaae38eaf", func := "skewer/skewerlaw16.HashBinds", spec := "hashBinds", unfollowed := true, recurses := true, named := ["skewer/hash.begin", "skewer/hash.keys"], apart := false, laid := [("skewer/hash.begin", laid_skewer_hash_begin), ("skewer/hash.keys", laid_skewer_hash_keys)] }
def HashBindsSaid : Prop := hashBindsRow.holds Tryd.pinned (OpenSpec.ofChange hashBindsSpec)

/-- ITS FALSE NEIGHBOUR: 'it returns false'. Refute it at one input. -/
def hashBindsWrong : ChangeSpec := { name := "hashBinds", fn := fun _ => fun
  | [d1, d2, d3] => { results := [.lit (.bool false)], args := [d1, d2, d3] }
  | _ => none }
def HashBindsWrongFalsely : Prop := hashBindsRow.holds Tryd.pinned (OpenSpec.ofChange hashBindsWrong)

/-- 'skewerlaw16.HashParts': WHATEVER THE INPUT: true; the input reads as it did. -/
def hashPartsSpec : ChangeSpec := { name := "hashParts", fn := fun _ => fun
  | [d] => { results := [.lit (.bool true)], args := [d] }
  | _ => none }
def hashPartsRow : OpenClaim := { program := "ytmindblfbijaaaadoor", sum := "ef5b001b452e5dd459443b01c4c9bb4b39347edfedd94fce84e41f0eaae38eaf", func := "skewer/skewerlaw16.HashParts", spec := "hashParts", unfollowed := true, recurses := true, named := ["skewer/hash.begin", "skewer/hash.keys"], apart := false, laid := [("skewer/hash.begin", laid_skewer_hash_begin), ("skewer/hash.keys", laid_skewer_hash_keys)] }
def HashPartsSaid : Prop := hashPartsRow.holds Tryd.pinned (OpenSpec.ofChange hashPartsSpec)

/-- ITS FALSE NEIGHBOUR: 'it returns false'. Refute it at one input. -/
def hashPartsWrong : ChangeSpec := { name := "hashParts", fn := fun _ => fun
  | [d] => { results := [.lit (.bool false)], args := [d] }
  | _ => none }
def HashPartsWrongFalsely : Prop := hashPartsRow.holds Tryd.pinned (OpenSpec.ofChange hashPartsWrong)

/-- 'skewerlaw16.HashPlaces': WHATEVER THE INPUT: true; the input reads as it did. -/
def hashPlacesSpec : ChangeSpec := { name := "hashPlaces", fn := fun _ => fun
  | [d1, d2, d3] => { results := [.lit (.bool true)], args := [d1, d2, d3] }
  | _ => none }
def hashPlacesRow : OpenClaim := { program := "ytmindblfbijaaaadoor", sum := "ef5b001b452e5dd459443b01c4c9bb4b39347edfedd94fce84e41f0eaae38eaf", func := "skewer/skewerlaw16.HashPlaces", spec := "hashPlaces", unfollowed := true, recurses := true, named := ["skewer/hash.begin", "skewer/hash.keys"], apart := false, laid := [("skewer/hash.begin", laid_skewer_hash_begin), ("skewer/hash.keys", laid_skewer_hash_keys)] }
def HashPlacesSaid : Prop := hashPlacesRow.holds Tryd.pinned (OpenSpec.ofChange hashPlacesSpec)

/-- ITS FALSE NEIGHBOUR: 'it returns false'. Refute it at one input. -/
def hashPlacesWrong : ChangeSpec := { name := "hashPlaces", fn := fun _ => fun
  | [d1, d2, d3] => { results := [.lit (.bool false)], args := [d1, d2, d3] }
  | _ => none }
def HashPlacesWrongFalsely : Prop := hashPlacesRow.holds Tryd.pinned (OpenSpec.ofChange hashPlacesWrong)

/-- 'skewerlaw16.HashNeighbors': WHATEVER THE INPUT: true; the input reads as it did. -/
def hashNeighborsSpec : ChangeSpec := { name := "hashNeighbors", fn := fun _ => fun
  | [d] => { results := [.lit (.bool true)], args := [d] }
  | _ => none }
def hashNeighborsRow : OpenClaim := { program := "ytmindblfbijaaaadoor", sum := "ef5b001b452e5dd459443b01c4c9bb4b39347edfedd94fce84e41f0eaae38eaf", func := "skewer/skewerlaw16.HashNeighbors", spec := "hashNeighbors", unfollowed := true, recurses := true, named := ["skewer/hash.begin", "skewer/hash.keys"], apart := false, laid := [("skewer/hash.begin", laid_skewer_hash_begin), ("skewer/hash.keys", laid_skewer_hash_keys)] }
def HashNeighborsSaid : Prop := hashNeighborsRow.holds Tryd.pinned (OpenSpec.ofChange hashNeighborsSpec)

/-- ITS FALSE NEIGHBOUR: 'it returns false'. Refute it at one input. -/
def hashNeighborsWrong : ChangeSpec := { name := "hashNeighbors", fn := fun _ => fun
  | [d] => { results := [.lit (.bool false)], args := [d] }
  | _ => none }
def HashNeighborsWrongFalsely : Prop := hashNeighborsRow.holds Tryd.pinned (OpenSpec.ofChange hashNeighborsWrong)

/-- 'skewerlaw16.HashBytes': WHATEVER THE INPUT: true; the input reads as it did. -/
def hashBytesSpec : ChangeSpec := { name := "hashBytes", fn := fun _ => fun
  | [d1, d2] => { results := [.lit (.bool true)], args := [d1, d2] }
  | _ => none }
def hashBytesRow : OpenClaim := { program := "ytmindblfbijaaaadoor", sum := "ef5b001b452e5dd459443b01c4c9bb4b39347edfedd94fce84e41f0eaae38eaf", func := "skewer/skewerlaw16.HashBytes", spec := "hashBytes", unfollowed := true, recurses := true, named := ["skewer/hash.begin", "skewer/hash.keys"], apart := false, laid := [("skewer/hash.begin", laid_skewer_hash_begin), ("skewer/hash.keys", laid_skewer_hash_keys)] }
def HashBytesSaid : Prop := hashBytesRow.holds Tryd.pinned (OpenSpec.ofChange hashBytesSpec)

/-- ITS FALSE NEIGHBOUR: 'it returns false'. Refute it at one input. -/
def hashBytesWrong : ChangeSpec := { name := "hashBytes", fn := fun _ => fun
  | [d1, d2] => { results := [.lit (.bool false)], args := [d1, d2] }
  | _ => none }
def HashBytesWrongFalsely : Prop := hashBytesRow.holds Tryd.pinned (OpenSpec.ofChange hashBytesWrong)

/- THE SECOND FORM. 'bulk': how many values and letters a reading holds, each counted each time it is reached (what is shared counts as often as it is met; a slice's spare places count too). A statement '..UptoSaid' is the law's where the arguments, and the package variables that the reading takes, are together of bulk at most 1048576: NARROWER than '..Said'. Prove '..Said' where nothing that the law and all that it calls make is longer than what came in: it says more and counts as full. Else prove '..UptoSaid'. A law counts once. -/
mutual
def uptoBulk {H : Type} : DataW H → Nat
  | .lit (.string bytes) => bytes.length + 1
  | .lit _ => 1
  | .nil => 1
  | .ptr d => uptoBulk d + 1
  | .slice elems spare => uptoBulkAll elems + uptoBulkAll spare + 1
  | .agg parts => uptoBulkAll parts + 1
  | .iface _ d => uptoBulk d + 1
  | .map entries => uptoBulkEntries entries + 1
  | .held _ => 1
def uptoBulkAll {H : Type} : List (DataW H) → Nat
  | [] => 0
  | d :: r => uptoBulk d + uptoBulkAll r
def uptoBulkEntries {H : Type} : List (Lit × DataW H) → Nat
  | [] => 0
  | x :: r => uptoBulkEntry x + uptoBulkEntries r
def uptoBulkEntry {H : Type} : Lit × DataW H → Nat
  | (.string bytes, d) => bytes.length + uptoBulk d + 1
  | (_, d) => uptoBulk d + 1
 end
def uptoSmall : (H : Type) → List (DataW H) → Bool := fun _ ds => decide (uptoBulkAll ds ≤ 1048576)
def OpenSpec.upto (s : _root_.Go.ChangeSpec) : _root_.Go.OpenSpec := { _root_.Go.OpenSpec.ofChange s with cond := some uptoSmall }

/-- 'skewerlaw16.HashMatchesReference', WHERE WHAT IT READS IS OF BULK AT MOST 1048576: true; the input reads as it did. -/
def hashMatchesReferenceUptoRow : OpenClaim := { program := "ytmindblfbijaaaadoor", sum := "ef5b001b452e5dd459443b01c4c9bb4b39347edfedd94fce84e41f0eaae38eaf", func := "skewer/skewerlaw16.HashMatchesReference", spec := "hashMatchesReference", unfollowed := true, recurses := true, named := ["skewer/hash.begin", "skewer/hash.keys"], apart := false, laid := [("skewer/hash.begin", laid_skewer_hash_begin), ("skewer/hash.keys", laid_skewer_hash_keys)], narrowed := true }
def HashMatchesReferenceUptoSaid : Prop := hashMatchesReferenceUptoRow.holds Tryd.pinned (OpenSpec.upto hashMatchesReferenceSpec)

/-- 'skewerlaw16.HashProofs', WHERE WHAT IT READS IS OF BULK AT MOST 1048576: true; the input reads as it did. -/
def hashProofsUptoRow : OpenClaim := { program := "ytmindblfbijaaaadoor", sum := "ef5b001b452e5dd459443b01c4c9bb4b39347edfedd94fce84e41f0eaae38eaf", func := "skewer/skewerlaw16.HashProofs", spec := "hashProofs", unfollowed := true, recurses := true, named := ["skewer/hash.begin", "skewer/hash.keys"], apart := false, laid := [("skewer/hash.begin", laid_skewer_hash_begin), ("skewer/hash.keys", laid_skewer_hash_keys)], narrowed := true }
def HashProofsUptoSaid : Prop := hashProofsUptoRow.holds Tryd.pinned (OpenSpec.upto hashProofsSpec)

/-- 'skewerlaw16.HashBinds', WHERE WHAT IT READS IS OF BULK AT MOST 1048576: true; the input reads as it did. -/
def hashBindsUptoRow : OpenClaim := { program := "ytmindblfbijaaaadoor", sum := "ef5b001b452e5dd459443b01c4c9bb4b39347edfedd94fce84e41f0eaae38eaf", func := "skewer/skewerlaw16.HashBinds", spec := "hashBinds", unfollowed := true, recurses := true, named := ["skewer/hash.begin", "skewer/hash.keys"], apart := false, laid := [("skewer/hash.begin", laid_skewer_hash_begin), ("skewer/hash.keys", laid_skewer_hash_keys)], narrowed := true }
def HashBindsUptoSaid : Prop := hashBindsUptoRow.holds Tryd.pinned (OpenSpec.upto hashBindsSpec)

/-- 'skewerlaw16.HashParts', WHERE WHAT IT READS IS OF BULK AT MOST 1048576: true; the input reads as it did. -/
def hashPartsUptoRow : OpenClaim := { program := "ytmindblfbijaaaadoor", sum := "ef5b001b452e5dd459443b01c4c9bb4b39347edfedd94fce84e41f0eaae38eaf", func := "skewer/skewerlaw16.HashParts", spec := "hashParts", unfollowed := true, recurses := true, named := ["skewer/hash.begin", "skewer/hash.keys"], apart := false, laid := [("skewer/hash.begin", laid_skewer_hash_begin), ("skewer/hash.keys", laid_skewer_hash_keys)], narrowed := true }
def HashPartsUptoSaid : Prop := hashPartsUptoRow.holds Tryd.pinned (OpenSpec.upto hashPartsSpec)

/-- 'skewerlaw16.HashPlaces', WHERE WHAT IT READS IS OF BULK AT MOST 1048576: true; the input reads as it did. -/
def hashPlacesUptoRow : OpenClaim := { program := "ytmindblfbijaaaadoor", sum := "ef5b001b452e5dd459443b01c4c9bb4b39347edfedd94fce84e41f0eaae38eaf", func := "skewer/skewerlaw16.HashPlaces", spec := "hashPlaces", unfollowed := true, recurses := true, named := ["skewer/hash.begin", "skewer/hash.keys"], apart := false, laid := [("skewer/hash.begin", laid_skewer_hash_begin), ("skewer/hash.keys", laid_skewer_hash_keys)], narrowed := true }
def HashPlacesUptoSaid : Prop := hashPlacesUptoRow.holds Tryd.pinned (OpenSpec.upto hashPlacesSpec)

/-- 'skewerlaw16.HashNeighbors', WHERE WHAT IT READS IS OF BULK AT MOST 1048576: true; the input reads as it did. -/
def hashNeighborsUptoRow : OpenClaim := { program := "ytmindblfbijaaaadoor", sum := "ef5b001b452e5dd459443b01c4c9bb4b39347edfedd94fce84e41f0eaae38eaf", func := "skewer/skewerlaw16.HashNeighbors", spec := "hashNeighbors", unfollowed := true, recurses := true, named := ["skewer/hash.begin", "skewer/hash.keys"], apart := false, laid := [("skewer/hash.begin", laid_skewer_hash_begin), ("skewer/hash.keys", laid_skewer_hash_keys)], narrowed := true }
def HashNeighborsUptoSaid : Prop := hashNeighborsUptoRow.holds Tryd.pinned (OpenSpec.upto hashNeighborsSpec)

/-- 'skewerlaw16.HashBytes', WHERE WHAT IT READS IS OF BULK AT MOST 1048576: true; the input reads as it did. -/
def hashBytesUptoRow : OpenClaim := { program := "ytmindblfbijaaaadoor", sum := "ef5b001b452e5dd459443b01c4c9bb4b39347edfedd94fce84e41f0eaae38eaf", func := "skewer/skewerlaw16.HashBytes", spec := "hashBytes", unfollowed := true, recurses := true, named := ["skewer/hash.begin", "skewer/hash.keys"], apart := false, laid := [("skewer/hash.begin", laid_skewer_hash_begin), ("skewer/hash.keys", laid_skewer_hash_keys)], narrowed := true }
def HashBytesUptoSaid : Prop := hashBytesUptoRow.holds Tryd.pinned (OpenSpec.upto hashBytesSpec)

end Rows
end Go.Proofs.YtmindblfbijaaaaDoor
