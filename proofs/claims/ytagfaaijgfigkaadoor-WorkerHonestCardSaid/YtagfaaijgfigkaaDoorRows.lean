/-
  NARROWER THAN 'FOR EVERY INPUT', by the rows' own cells (each row's printed sentence says how): WorkerMatchesReference: laid · WorkerCuts: laid · WorkerHonest: laid · WorkerLate: laid · WorkerLies: laid · WorkerSound: laid · WorkerBytes: laid.
  DERIVED. THE GIVEN ROWS OF THIS SEAT. 7 by the template 'for every input the law returns true; each argument reads behind the call as it read before'; 0 by the template 'total and deterministic' (their statements: YtagfaaijgfigkaaDoorTotals.lean).
  GIVEN WITH THE SEED: the statements are not yours to turn. If you find one false, say at which input.
  Laid BY PROGRAM, IN A SANDBOX (cutbox-rows.mjs): the forced cells as the released guide's own fill.sh prints them over the translation fab7e22804ea60d8… (all of the seat's roots in one cut). By AI agents, Wed Nov 11 2026. No macro, syntax, notation, axiom, sorry.
-/
import Derived.Test.YtagfaaijgfigkaaDoorChecked
import GoSem.Claim
import GoSem.ClaimJoined
import GoSem.ClaimMapViews
import Derived.JoinedTies
import Derived.KernelRfl
namespace Go.Proofs.YtagfaaijgfigkaaDoor
/- THE CELL 'sum', in the pinned program and in every row, IS THE sha256 OF THE DUMP (.gsa) THAT YtagfaaijgfigkaaDoorProg.lean LOADS. Nothing in Lean hashes anything: it is a label: what it is worth is what the hold of that sum in a sandbox is worth. -/
noncomputable def Tryd.pinned : Pinned := { name := "ytagfaaijgfigkaadoor", sum := "fab7e22804ea60d8e67f10177468b212e0dddb7732f9aabc1faf2a828c61be84", checked := Tryd.checked }
namespace Rows
def none {H : Type} : Left H := { results := [], args := [] }

/- WHAT THE LISTED PACKAGE-LEVEL VARIABLES READ AS WHEN THE CALL BEGINS. Each datum BY PROGRAM (the guide's laid-datum.mjs) off the statement by which the dump's own 'gosem.cut.vars' lays the variable. In a bare row this is a premise. The card (YtagfaaijgfigkaaDoorCards.lean) ties it to the program's text. -/
def laid_skewer_hash_begin {H : Type} : DataW H := .agg [.lit (.int .u32 1779033703), .lit (.int .u32 3144134277), .lit (.int .u32 1013904242), .lit (.int .u32 2773480762), .lit (.int .u32 1359893119), .lit (.int .u32 2600822924), .lit (.int .u32 528734635), .lit (.int .u32 1541459225)]
def laid_skewer_hash_keys {H : Type} : DataW H := .agg [.lit (.int .u32 1116352408), .lit (.int .u32 1899447441), .lit (.int .u32 3049323471), .lit (.int .u32 3921009573), .lit (.int .u32 961987163), .lit (.int .u32 1508970993), .lit (.int .u32 2453635748), .lit (.int .u32 2870763221), .lit (.int .u32 3624381080), .lit (.int .u32 310598401), .lit (.int .u32 607225278), .lit (.int .u32 1426881987), .lit (.int .u32 1925078388), .lit (.int .u32 2162078206), .lit (.int .u32 2614888103), .lit (.int .u32 3248222580), .lit (.int .u32 3835390401), .lit (.int .u32 4022224774), .lit (.int .u32 264347078), .lit (.int .u32 604807628), .lit (.int .u32 770255983), .lit (.int .u32 1249150122), .lit (.int .u32 1555081692), .lit (.int .u32 1996064986), .lit (.int .u32 2554220882), .lit (.int .u32 2821834349), .lit (.int .u32 2952996808), .lit (.int .u32 3210313671), .lit (.int .u32 3336571891), .lit (.int .u32 3584528711), .lit (.int .u32 113926993), .lit (.int .u32 338241895), .lit (.int .u32 666307205), .lit (.int .u32 773529912), .lit (.int .u32 1294757372), .lit (.int .u32 1396182291), .lit (.int .u32 1695183700), .lit (.int .u32 1986661051), .lit (.int .u32 2177026350), .lit (.int .u32 2456956037), .lit (.int .u32 2730485921), .lit (.int .u32 2820302411), .lit (.int .u32 3259730800), .lit (.int .u32 3345764771), .lit (.int .u32 3516065817), .lit (.int .u32 3600352804), .lit (.int .u32 4094571909), .lit (.int .u32 275423344), .lit (.int .u32 430227734), .lit (.int .u32 506948616), .lit (.int .u32 659060556), .lit (.int .u32 883997877), .lit (.int .u32 958139571), .lit (.int .u32 1322822218), .lit (.int .u32 1537002063), .lit (.int .u32 1747873779), .lit (.int .u32 1955562222), .lit (.int .u32 2024104815), .lit (.int .u32 2227730452), .lit (.int .u32 2361852424), .lit (.int .u32 2428436474), .lit (.int .u32 2756734187), .lit (.int .u32 3204031479), .lit (.int .u32 3329325298)]

/-- 'skewerlaw17.WorkerMatchesReference': WHATEVER THE INPUT: true; the input reads as it did. -/
def workerMatchesReferenceSpec : ChangeSpec := { name := "workerMatchesReference", fn := fun _ => fun
  | [d1, d2, d3] => { results := [.lit (.bool true)], args := [d1, d2, d3] }
  | _ => none }
def workerMatchesReferenceRow : OpenClaim := { program := "ytagfaaijgfigkaadoor", sum := "fab7e22804ea60d8e67f10177468b212e0dddb7732f9aabc1faf2a828c61be84", func := "skewer/skewerlaw17.WorkerMatchesReference", spec := "workerMatchesReference", unfollowed := true, recurses := true, named := ["skewer/hash.begin", "skewer/hash.keys"], apart := false, laid := [("skewer/hash.begin", laid_skewer_hash_begin), ("skewer/hash.keys", laid_skewer_hash_keys)] }
def WorkerMatchesReferenceSaid : Prop := workerMatchesReferenceRow.holds Tryd.pinned (OpenSpec.ofChange workerMatchesReferenceSpec)

/-- ITS FALSE NEIGHBOUR: 'it returns false'. Refute it at one input. -/
def workerMatchesReferenceWrong : ChangeSpec := { name := "workerMatchesReference", fn := fun _ => fun
  | [d1, d2, d3] => { results := [.lit (.bool false)], args := [d1, d2, d3] }
  | _ => none }
def WorkerMatchesReferenceWrongFalsely : Prop := workerMatchesReferenceRow.holds Tryd.pinned (OpenSpec.ofChange workerMatchesReferenceWrong)

/-- 'skewerlaw17.WorkerCuts': WHATEVER THE INPUT: true; the input reads as it did. -/
def workerCutsSpec : ChangeSpec := { name := "workerCuts", fn := fun _ => fun
  | [d1, d2] => { results := [.lit (.bool true)], args := [d1, d2] }
  | _ => none }
def workerCutsRow : OpenClaim := { program := "ytagfaaijgfigkaadoor", sum := "fab7e22804ea60d8e67f10177468b212e0dddb7732f9aabc1faf2a828c61be84", func := "skewer/skewerlaw17.WorkerCuts", spec := "workerCuts", unfollowed := true, recurses := true, named := ["skewer/hash.begin", "skewer/hash.keys"], apart := false, laid := [("skewer/hash.begin", laid_skewer_hash_begin), ("skewer/hash.keys", laid_skewer_hash_keys)] }
def WorkerCutsSaid : Prop := workerCutsRow.holds Tryd.pinned (OpenSpec.ofChange workerCutsSpec)

/-- ITS FALSE NEIGHBOUR: 'it returns false'. Refute it at one input. -/
def workerCutsWrong : ChangeSpec := { name := "workerCuts", fn := fun _ => fun
  | [d1, d2] => { results := [.lit (.bool false)], args := [d1, d2] }
  | _ => none }
def WorkerCutsWrongFalsely : Prop := workerCutsRow.holds Tryd.pinned (OpenSpec.ofChange workerCutsWrong)

/-- 'skewerlaw17.WorkerHonest': WHATEVER THE INPUT: true; the input reads as it did. -/
def workerHonestSpec : ChangeSpec := { name := "workerHonest", fn := fun _ => fun
  | [d1, d2, d3] => { results := [.lit (.bool true)], args := [d1, d2, d3] }
  | _ => none }
def workerHonestRow : OpenClaim := { program := "ytagfaaijgfigkaadoor", sum := "fab7e22804ea60d8e67f10177468b212e0dddb7732f9aabc1faf2a828c61be84", func := "skewer/skewerlaw17.WorkerHonest", spec := "workerHonest", unfollowed := true, recurses := true, named := ["skewer/hash.begin", "skewer/hash.keys"], apart := false, laid := [("skewer/hash.begin", laid_skewer_hash_begin), ("skewer/hash.keys", laid_skewer_hash_keys)] }
def WorkerHonestSaid : Prop := workerHonestRow.holds Tryd.pinned (OpenSpec.ofChange workerHonestSpec)

/-- ITS FALSE NEIGHBOUR: 'it returns false'. Refute it at one input. -/
def workerHonestWrong : ChangeSpec := { name := "workerHonest", fn := fun _ => fun
  | [d1, d2, d3] => { results := [.lit (.bool false)], args := [d1, d2, d3] }
  | _ => none }
def WorkerHonestWrongFalsely : Prop := workerHonestRow.holds Tryd.pinned (OpenSpec.ofChange workerHonestWrong)

/-- 'skewerlaw17.WorkerLate': WHATEVER THE INPUT: true; the input reads as it did. -/
def workerLateSpec : ChangeSpec := { name := "workerLate", fn := fun _ => fun
  | [d1, d2, d3] => { results := [.lit (.bool true)], args := [d1, d2, d3] }
  | _ => none }
def workerLateRow : OpenClaim := { program := "ytagfaaijgfigkaadoor", sum := "fab7e22804ea60d8e67f10177468b212e0dddb7732f9aabc1faf2a828c61be84", func := "skewer/skewerlaw17.WorkerLate", spec := "workerLate", unfollowed := true, recurses := true, named := ["skewer/hash.begin", "skewer/hash.keys"], apart := false, laid := [("skewer/hash.begin", laid_skewer_hash_begin), ("skewer/hash.keys", laid_skewer_hash_keys)] }
def WorkerLateSaid : Prop := workerLateRow.holds Tryd.pinned (OpenSpec.ofChange workerLateSpec)

/-- ITS FALSE NEIGHBOUR: 'it returns false'. Refute it at one input. -/
def workerLateWrong : ChangeSpec := { name := "workerLate", fn := fun _ => fun
  | [d1, d2, d3] => { results := [.lit (.bool false)], args := [d1, d2, d3] }
  | _ => none }
def WorkerLateWrongFalsely : Prop := workerLateRow.holds Tryd.pinned (OpenSpec.ofChange workerLateWrong)

/-- 'skewerlaw17.WorkerLies': WHATEVER THE INPUT: true; the input reads as it did. -/
def workerLiesSpec : ChangeSpec := { name := "workerLies", fn := fun _ => fun
  | [d1, d2, d3] => { results := [.lit (.bool true)], args := [d1, d2, d3] }
  | _ => none }
def workerLiesRow : OpenClaim := { program := "ytagfaaijgfigkaadoor", sum := "fab7e22804ea60d8e67f10177468b212e0dddb7732f9aabc1faf2a828c61be84", func := "skewer/skewerlaw17.WorkerLies", spec := "workerLies", unfollowed := true, recurses := true, named := ["skewer/hash.begin", "skewer/hash.keys"], apart := false, laid := [("skewer/hash.begin", laid_skewer_hash_begin), ("skewer/hash.keys", laid_skewer_hash_keys)] }
def WorkerLiesSaid : Prop := workerLiesRow.holds Tryd.pinned (OpenSpec.ofChange workerLiesSpec)

/-- ITS FALSE NEIGHBOUR: 'it returns false'. Refute it at one input. -/
def workerLiesWrong : ChangeSpec := { name := "workerLies", fn := fun _ => fun
  | [d1, d2, d3] => { results := [.lit (.bool false)], args := [d1, d2, d3] }
  | _ => none }
def WorkerLiesWrongFalsely : Prop := workerLiesRow.holds Tryd.pinned (OpenSpec.ofChange workerLiesWrong)

/-- 'skewerlaw17.WorkerSound': WHATEVER THE INPUT: true; the input reads as it did. -/
def workerSoundSpec : ChangeSpec := { name := "workerSound", fn := fun _ => fun
  | [d1, d2, d3] => { results := [.lit (.bool true)], args := [d1, d2, d3] }
  | _ => none }
def workerSoundRow : OpenClaim := { program := "ytagfaaijgfigkaadoor", sum := "fab7e22804ea60d8e67f10177468b212e0dddb7732f9aabc1faf2a828c61be84", func := "skewer/skewerlaw17.WorkerSound", spec := "workerSound", unfollowed := true, recurses := true, named := ["skewer/hash.begin", "skewer/hash.keys"], apart := false, laid := [("skewer/hash.begin", laid_skewer_hash_begin), ("skewer/hash.keys", laid_skewer_hash_keys)] }
def WorkerSoundSaid : Prop := workerSoundRow.holds Tryd.pinned (OpenSpec.ofChange workerSoundSpec)

/-- ITS FALSE NEIGHBOUR: 'it returns false'. Refute it at one input. -/
def workerSoundWrong : ChangeSpec := { name := "workerSound", fn := fun _ => fun
  | [d1, d2, d3] => { results := [.lit (.bool false)], args := [d1, d2, d3] }
  | _ => none }
def WorkerSoundWrongFalsely : Prop := workerSoundRow.holds Tryd.pinned (OpenSpec.ofChange workerSoundWrong)

/-- 'skewerlaw17.WorkerBytes': WHATEVER THE INPUT: true; the input reads as it did. -/
def workerBytesSpec : ChangeSpec := { name := "workerBytes", fn := fun _ => fun
  | [d1, d2] => { results := [.lit (.bool true)], args := [d1, d2] }
  | _ => none }
def workerBytesRow : OpenClaim := { program := "ytagfaaijgfigkaadoor", sum := "fab7e22804ea60d8e67f10177468b212e0dddb7732f9aabc1faf2a828c61be84", func := "skewer/skewerlaw17.WorkerBytes", spec := "workerBytes", unfollowed := true, recurses := true, named := ["skewer/hash.begin", "skewer/hash.keys"], apart := false, laid := [("skewer/hash.begin", laid_skewer_hash_begin), ("skewer/hash.keys", laid_skewer_hash_keys)] }
def WorkerBytesSaid : Prop := workerBytesRow.holds Tryd.pinned (OpenSpec.ofChange workerBytesSpec)

/-- ITS FALSE NEIGHBOUR: 'it returns false'. Refute it at one input. -/
def workerBytesWrong : ChangeSpec := { name := "workerBytes", fn := fun _ => fun
  | [d1, d2] => { results := [.lit (.bool false)], args := [d1, d2] }
  | _ => none }
def WorkerBytesWrongFalsely : Prop := workerBytesRow.holds Tryd.pinned (OpenSpec.ofChange workerBytesWrong)

/- THE SECOND FORM. 'bulk': how many values and letters a reading holds, each counted each time it is reached (what is shared counts as often as it is met; a slice's spare places count too). A statement '..UptoSaid' is the law's where the arguments, and the package variables that the reading takes, are together of bulk at most 1048576: NARROWER than '..Said'. Prove '..Said' where nothing that the law and all that it calls make is longer than what came in: it says more and counts as full. Else prove '..UptoSaid'. A law counts once. -/
mutual
def uptoBulk {H : Type} : DataW H → Nat
  | .lit (.string bytes) => bytes.length + 1
  | .lit _ => 1
  | .nil => 1
  | .ptr d => uptoBulk d + 1
  | .slice elems spare => uptoBulkAll elems + uptoBulkAll spare + 1
  | .agg parts => uptoBulkAll parts + 1
  | .iface _ d => uptoBulk d + 1
  | .map entries => uptoBulkEntries entries + 1
  | .held _ => 1
def uptoBulkAll {H : Type} : List (DataW H) → Nat
  | [] => 0
  | d :: r => uptoBulk d + uptoBulkAll r
def uptoBulkEntries {H : Type} : List (Lit × DataW H) → Nat
  | [] => 0
  | x :: r => uptoBulkEntry x + uptoBulkEntries r
def uptoBulkEntry {H : Type} : Lit × DataW H → Nat
  | (.string bytes, d) => bytes.length + uptoBulk d + 1
  | (_, d) => uptoBulk d + 1
 end
def uptoSmall : (H : Type) → List (DataW H) → Bool := fun _ ds => decide (uptoBulkAll ds ≤ 1048576)
def OpenSpec.upto (s : _root_.Go.ChangeSpec) : _root_.Go.OpenSpec := { _root_.Go.OpenSpec.ofChange s with cond := some uptoSmall }

/-- 'skewerlaw17.WorkerMatchesReference', WHERE WHAT IT READS IS OF BULK AT MOST 1048576: true; the input reads as it did. -/
def workerMatchesReferenceUptoRow : OpenClaim := { program := "ytagfaaijgfigkaadoor", sum := "fab7e22804ea60d8e67f10177468b212e0dddb7732f9aabc1faf2a828c61be84", func := "skewer/skewerlaw17.WorkerMatchesReference", spec := "workerMatchesReference", unfollowed := true, recurses := true, named := ["skewer/hash.begin", "skewer/hash.keys"], apart := false, laid := [("skewer/hash.begin", laid_skewer_hash_begin), ("skewer/hash.keys", laid_skewer_hash_keys)], narrowed := true }
def WorkerMatchesReferenceUptoSaid : Prop := workerMatchesReferenceUptoRow.holds Tryd.pinned (OpenSpec.upto workerMatchesReferenceSpec)

/-- 'skewerlaw17.WorkerCuts', WHERE WHAT IT READS IS OF BULK AT MOST 1048576: true; the input reads as it did. -/
def workerCutsUptoRow : OpenClaim := { program := "ytagfaaijgfigkaadoor", sum := "fab7e22804ea60d8e67f10177468b212e0dddb7732f9aabc1faf2a828c61be84", func := "skewer/skewerlaw17.WorkerCuts", spec := "workerCuts", unfollowed := true, recurses := true, named := ["skewer/hash.begin", "skewer/hash.keys"], apart := false, laid := [("skewer/hash.begin", laid_skewer_hash_begin), ("skewer/hash.keys", laid_skewer_hash_keys)], narrowed := true }
def WorkerCutsUptoSaid : Prop := workerCutsUptoRow.holds Tryd.pinned (OpenSpec.upto workerCutsSpec)

/-- 'skewerlaw17.WorkerHonest', WHERE WHAT IT READS IS OF BULK AT MOST 1048576: true; the input reads as it did. -/
def workerHonestUptoRow : OpenClaim := { program := "ytagfaaijgfigkaadoor", sum := "fab7e22804ea60d8e67f10177468b212e0dddb7732f9aabc1faf2a828c61be84", func := "skewer/skewerlaw17.WorkerHonest", spec := "workerHonest", unfollowed := true, recurses := true, named := ["skewer/hash.begin", "skewer/hash.keys"], apart := false, laid := [("skewer/hash.begin", laid_skewer_hash_begin), ("skewer/hash.keys", laid_skewer_hash_keys)], narrowed := true }
def WorkerHonestUptoSaid : Prop := workerHonestUptoRow.holds Tryd.pinned (OpenSpec.upto workerHonestSpec)

/-- 'skewerlaw17.WorkerLate', WHERE WHAT IT READS IS OF BULK AT MOST 1048576: true; the input reads as it did. -/
def workerLateUptoRow : OpenClaim := { program := "ytagfaaijgfigkaadoor", sum := "fab7e22804ea60d8e67f10177468b212e0dddb7732f9aabc1faf2a828c61be84", func := "skewer/skewerlaw17.WorkerLate", spec := "workerLate", unfollowed := true, recurses := true, named := ["skewer/hash.begin", "skewer/hash.keys"], apart := false, laid := [("skewer/hash.begin", laid_skewer_hash_begin), ("skewer/hash.keys", laid_skewer_hash_keys)], narrowed := true }
def WorkerLateUptoSaid : Prop := workerLateUptoRow.holds Tryd.pinned (OpenSpec.upto workerLateSpec)

/-- 'skewerlaw17.WorkerLies', WHERE WHAT IT READS IS OF BULK AT MOST 1048576: true; the input reads as it did. -/
def workerLiesUptoRow : OpenClaim := { program := "ytagfaaijgfigkaadoor", sum := "fab7e22804ea60d8e67f10177468b212e0dddb7732f9aabc1faf2a828c61be84", func := "skewer/skewerlaw17.WorkerLies", spec := "workerLies", unfollowed := true, recurses := true, named := ["skewer/hash.begin", "skewer/hash.keys"], apart := false, laid := [("skewer/hash.begin", laid_skewer_hash_begin), ("skewer/hash.keys", laid_skewer_hash_keys)], narrowed := true }
def WorkerLiesUptoSaid : Prop := workerLiesUptoRow.holds Tryd.pinned (OpenSpec.upto workerLiesSpec)

/-- 'skewerlaw17.WorkerSound', WHERE WHAT IT READS IS OF BULK AT MOST 1048576: true; the input reads as it did. -/
def workerSoundUptoRow : OpenClaim := { program := "ytagfaaijgfigkaadoor", sum := "fab7e22804ea60d8e67f10177468b212e0dddb7732f9aabc1faf2a828c61be84", func := "skewer/skewerlaw17.WorkerSound", spec := "workerSound", unfollowed := true, recurses := true, named := ["skewer/hash.begin", "skewer/hash.keys"], apart := false, laid := [("skewer/hash.begin", laid_skewer_hash_begin), ("skewer/hash.keys", laid_skewer_hash_keys)], narrowed := true }
def WorkerSoundUptoSaid : Prop := workerSoundUptoRow.holds Tryd.pinned (OpenSpec.upto workerSoundSpec)

/-- 'skewerlaw17.WorkerBytes', WHERE WHAT IT READS IS OF BULK AT MOST 1048576: true; the input reads as it did. -/
def workerBytesUptoRow : OpenClaim := { program := "ytagfaaijgfigkaadoor", sum := "fab7e22804ea60d8e67f10177468b212e0dddb7732f9aabc1faf2a828c61be84", func := "skewer/skewerlaw17.WorkerBytes", spec := "workerBytes", unfollowed := true, recurses := true, named := ["skewer/hash.begin", "skewer/hash.keys"], apart := false, laid := [("skewer/hash.begin", laid_skewer_hash_begin), ("skewer/hash.keys", laid_skewer_hash_keys)], narrowed := true }
def WorkerBytesUptoSaid : Prop := workerBytesUptoRow.holds Tryd.pinned (OpenSpec.upto workerBytesSpec)

end Rows
end Go.Proofs.YtagfaaijgfigkaaDoor
