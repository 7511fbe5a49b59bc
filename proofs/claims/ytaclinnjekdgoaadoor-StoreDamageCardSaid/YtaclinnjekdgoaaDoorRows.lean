/-
  NARROWER THAN 'FOR EVERY INPUT', by the rows' own cells (each row's printed sentence says how): StoreSound: laid · StoreGets: laid · StoreCrashes: laid · StoreSyncs: laid · StoreDamage: laid · StoreAgain: laid · StoreLimits: laid.
  DERIVED. THE GIVEN ROWS OF THIS SEAT. 7 by the template 'for every input the law returns true; each argument reads behind the call as it read before'; 0 by the template 'total and deterministic' (their statements: YtaclinnjekdgoaaDoorTotals.lean).
  GIVEN WITH THE SEED: the statements are not yours to turn. If you find one false, say at which input.
  Laid BY PROGRAM, IN A SANDBOX (cutbox-rows.mjs): the forced cells as the released guide's own fill.sh prints them over the translation 5f4c3ec2b7e085ba… (all of the seat's roots in one cut). By AI agents, Wed Nov 11 2026. No macro, syntax, notation, axiom, sorry.
-/
import Derived.Test.YtaclinnjekdgoaaDoorChecked
import GoSem.Claim
import GoSem.ClaimJoined
import GoSem.ClaimMapViews
import Derived.JoinedTies
import Derived.KernelRfl
namespace Go.Proofs.YtaclinnjekdgoaaDoor
/- THE CELL 'sum', in the pinned program and in every row, IS THE sha256 OF THE DUMP (.gsa) THAT YtaclinnjekdgoaaDoorProg.lean LOADS. Nothing in Lean hashes anything: it is a label: what it is worth is what the hold of that sum in a sandbox is worth. -/
noncomputable def Tryd.pinned : Pinned := { name := "ytaclinnjekdgoaadoor", sum := "5f4c3ec2b7e085ba874d23a94a5f3f4907d36fbbcb8a6ed46948e96d8d8c50e6", checked := Tryd.checked }
namespace Rows
def none {H : Type} : Left H := { results := [], args := [] }

/- WHAT THE LISTED PACKAGE-LEVEL VARIABLES READ AS WHEN THE CALL BEGINS. Each datum BY PROGRAM (the guide's laid-datum.mjs) off the statement by which the dump's own 'gosem.cut.vars' lays the variable. In a bare row this is a premise. The card (YtaclinnjekdgoaaDoorCards.lean) ties it to the program's text. -/
def laid_skewer_hash_begin {H : Type} : DataW H := .agg [.lit (.int .u32 1779033703), .lit (.int .u32 3144134277), .lit (.int .u32 1013904242), .lit (.int .u32 2773480762), .lit (.int .u32 1359893119), .lit (.int .u32 2600822924), .lit (.int .u32 528734635), .lit (.int .u32 1541459225)]
def laid_skewer_hash_keys {H : Type} : DataW H := .agg [.lit (.int .u32 1116352408), .lit (.int .u32 1899447441), .lit (.int .u32 3049323471), .lit (.int .u32 3921009573), .lit (.int .u32 961987163), .lit (.int .u32 1508970993), .lit (.int .u32 2453635748), .lit (.int .u32 2870763221), .lit (.int .u32 3624381080), .lit (.int .u32 310598401), .lit (.int .u32 607225278), .lit (.int .u32 1426881987), .lit (.int .u32 1925078388), .lit (.int .u32 2162078206), .lit (.int .u32 2614888103), .lit (.int .u32 3248222580), .lit (.int .u32 3835390401), .lit (.int .u32 4022224774), .lit (.int .u32 264347078), .lit (.int .u32 604807628), .lit (.int .u32 770255983), .lit (.int .u32 1249150122), .lit (.int .u32 1555081692), .lit (.int .u32 1996064986), .lit (.int .u32 2554220882), .lit (.int .u32 2821834349), .lit (.int .u32 2952996808), .lit (.int .u32 3210313671), .lit (.int .u32 3336571891), .lit (.int .u32 3584528711), .lit (.int .u32 113926993), .lit (.int .u32 338241895), .lit (.int .u32 666307205), .lit (.int .u32 773529912), .lit (.int .u32 1294757372), .lit (.int .u32 1396182291), .lit (.int .u32 1695183700), .lit (.int .u32 1986661051), .lit (.int .u32 2177026350), .lit (.int .u32 2456956037), .lit (.int .u32 2730485921), .lit (.int .u32 2820302411), .lit (.int .u32 3259730800), .lit (.int .u32 3345764771), .lit (.int .u32 3516065817), .lit (.int .u32 3600352804), .lit (.int .u32 4094571909), .lit (.int .u32 275423344), .lit (.int .u32 430227734), .lit (.int .u32 506948616), .lit (.int .u32 659060556), .lit (.int .u32 883997877), .lit (.int .u32 958139571), .lit (.int .u32 1322822218), .lit (.int .u32 1537002063), .lit (.int .u32 1747873779), .lit (.int .u32 1955562222), .lit (.int .u32 2024104815), .lit (.int .u32 2227730452), .lit (.int .u32 2361852424), .lit (.int .u32 2428436474), .lit (.int .u32 2756734187), .lit (.int .u32 3204031479), .lit (.int .u32 3329325298)]

/-- 'skewerlaw33.StoreSound': WHATEVER THE INPUT: true; the input reads as it did. -/
def storeSoundSpec : ChangeSpec := { name := "storeSound", fn := fun _ => fun
  | [d] => { results := [.lit (.bool true)], args := [d] }
  | _ => none }
def storeSoundRow : OpenClaim := { program := "ytaclinnjekdgoaadoor", sum := "5f4c3ec2b7e085ba874d23a94a5f3f4907d36fbbcb8a6ed46948e96d8d8c50e6", func := "skewer/skewerlaw33.StoreSound", spec := "storeSound", unfollowed := true, recurses := true, named := ["skewer/hash.begin", "skewer/hash.keys"], apart := false, laid := [("skewer/hash.begin", laid_skewer_hash_begin), ("skewer/hash.keys", laid_skewer_hash_keys)] }
def StoreSoundSaid : Prop := storeSoundRow.holds Tryd.pinned (OpenSpec.ofChange storeSoundSpec)

/-- ITS FALSE NEIGHBOUR: 'it returns false'. Refute it at one input. -/
def storeSoundWrong : ChangeSpec := { name := "storeSound", fn := fun _ => fun
  | [d] => { results := [.lit (.bool false)], args := [d] }
  | _ => none }
def StoreSoundWrongFalsely : Prop := storeSoundRow.holds Tryd.pinned (OpenSpec.ofChange storeSoundWrong)

/-- 'skewerlaw33.StoreGets': WHATEVER THE INPUT: true; the input reads as it did. -/
def storeGetsSpec : ChangeSpec := { name := "storeGets", fn := fun _ => fun
  | [d1, d2] => { results := [.lit (.bool true)], args := [d1, d2] }
  | _ => none }
def storeGetsRow : OpenClaim := { program := "ytaclinnjekdgoaadoor", sum := "5f4c3ec2b7e085ba874d23a94a5f3f4907d36fbbcb8a6ed46948e96d8d8c50e6", func := "skewer/skewerlaw33.StoreGets", spec := "storeGets", unfollowed := true, recurses := true, named := ["skewer/hash.begin", "skewer/hash.keys"], apart := false, laid := [("skewer/hash.begin", laid_skewer_hash_begin), ("skewer/hash.keys", laid_skewer_hash_keys)] }
def StoreGetsSaid : Prop := storeGetsRow.holds Tryd.pinned (OpenSpec.ofChange storeGetsSpec)

/-- ITS FALSE NEIGHBOUR: 'it returns false'. Refute it at one input. -/
def storeGetsWrong : ChangeSpec := { name := "storeGets", fn := fun _ => fun
  | [d1, d2] => { results := [.lit (.bool false)], args := [d1, d2] }
  | _ => none }
def StoreGetsWrongFalsely : Prop := storeGetsRow.holds Tryd.pinned (OpenSpec.ofChange storeGetsWrong)

/-- 'skewerlaw33.StoreCrashes': WHATEVER THE INPUT: true; the input reads as it did. -/
def storeCrashesSpec : ChangeSpec := { name := "storeCrashes", fn := fun _ => fun
  | [d1, d2] => { results := [.lit (.bool true)], args := [d1, d2] }
  | _ => none }
def storeCrashesRow : OpenClaim := { program := "ytaclinnjekdgoaadoor", sum := "5f4c3ec2b7e085ba874d23a94a5f3f4907d36fbbcb8a6ed46948e96d8d8c50e6", func := "skewer/skewerlaw33.StoreCrashes", spec := "storeCrashes", unfollowed := true, recurses := true, named := ["skewer/hash.begin", "skewer/hash.keys"], apart := false, laid := [("skewer/hash.begin", laid_skewer_hash_begin), ("skewer/hash.keys", laid_skewer_hash_keys)] }
def StoreCrashesSaid : Prop := storeCrashesRow.holds Tryd.pinned (OpenSpec.ofChange storeCrashesSpec)

/-- ITS FALSE NEIGHBOUR: 'it returns false'. Refute it at one input. -/
def storeCrashesWrong : ChangeSpec := { name := "storeCrashes", fn := fun _ => fun
  | [d1, d2] => { results := [.lit (.bool false)], args := [d1, d2] }
  | _ => none }
def StoreCrashesWrongFalsely : Prop := storeCrashesRow.holds Tryd.pinned (OpenSpec.ofChange storeCrashesWrong)

/-- 'skewerlaw33.StoreSyncs': WHATEVER THE INPUT: true; the input reads as it did. -/
def storeSyncsSpec : ChangeSpec := { name := "storeSyncs", fn := fun _ => fun
  | [d1, d2, d3] => { results := [.lit (.bool true)], args := [d1, d2, d3] }
  | _ => none }
def storeSyncsRow : OpenClaim := { program := "ytaclinnjekdgoaadoor", sum := "5f4c3ec2b7e085ba874d23a94a5f3f4907d36fbbcb8a6ed46948e96d8d8c50e6", func := "skewer/skewerlaw33.StoreSyncs", spec := "storeSyncs", unfollowed := true, recurses := true, named := ["skewer/hash.begin", "skewer/hash.keys"], apart := false, laid := [("skewer/hash.begin", laid_skewer_hash_begin), ("skewer/hash.keys", laid_skewer_hash_keys)] }
def StoreSyncsSaid : Prop := storeSyncsRow.holds Tryd.pinned (OpenSpec.ofChange storeSyncsSpec)

/-- ITS FALSE NEIGHBOUR: 'it returns false'. Refute it at one input. -/
def storeSyncsWrong : ChangeSpec := { name := "storeSyncs", fn := fun _ => fun
  | [d1, d2, d3] => { results := [.lit (.bool false)], args := [d1, d2, d3] }
  | _ => none }
def StoreSyncsWrongFalsely : Prop := storeSyncsRow.holds Tryd.pinned (OpenSpec.ofChange storeSyncsWrong)

/-- 'skewerlaw33.StoreDamage': WHATEVER THE INPUT: true; the input reads as it did. -/
def storeDamageSpec : ChangeSpec := { name := "storeDamage", fn := fun _ => fun
  | [d1, d2] => { results := [.lit (.bool true)], args := [d1, d2] }
  | _ => none }
def storeDamageRow : OpenClaim := { program := "ytaclinnjekdgoaadoor", sum := "5f4c3ec2b7e085ba874d23a94a5f3f4907d36fbbcb8a6ed46948e96d8d8c50e6", func := "skewer/skewerlaw33.StoreDamage", spec := "storeDamage", unfollowed := true, recurses := true, named := ["skewer/hash.begin", "skewer/hash.keys"], apart := false, laid := [("skewer/hash.begin", laid_skewer_hash_begin), ("skewer/hash.keys", laid_skewer_hash_keys)] }
def StoreDamageSaid : Prop := storeDamageRow.holds Tryd.pinned (OpenSpec.ofChange storeDamageSpec)

/-- ITS FALSE NEIGHBOUR: 'it returns false'. Refute it at one input. -/
def storeDamageWrong : ChangeSpec := { name := "storeDamage", fn := fun _ => fun
  | [d1, d2] => { results := [.lit (.bool false)], args := [d1, d2] }
  | _ => none }
def StoreDamageWrongFalsely : Prop := storeDamageRow.holds Tryd.pinned (OpenSpec.ofChange storeDamageWrong)

/-- 'skewerlaw33.StoreAgain': WHATEVER THE INPUT: true; the input reads as it did. -/
def storeAgainSpec : ChangeSpec := { name := "storeAgain", fn := fun _ => fun
  | [d1, d2] => { results := [.lit (.bool true)], args := [d1, d2] }
  | _ => none }
def storeAgainRow : OpenClaim := { program := "ytaclinnjekdgoaadoor", sum := "5f4c3ec2b7e085ba874d23a94a5f3f4907d36fbbcb8a6ed46948e96d8d8c50e6", func := "skewer/skewerlaw33.StoreAgain", spec := "storeAgain", unfollowed := true, recurses := true, named := ["skewer/hash.begin", "skewer/hash.keys"], apart := false, laid := [("skewer/hash.begin", laid_skewer_hash_begin), ("skewer/hash.keys", laid_skewer_hash_keys)] }
def StoreAgainSaid : Prop := storeAgainRow.holds Tryd.pinned (OpenSpec.ofChange storeAgainSpec)

/-- ITS FALSE NEIGHBOUR: 'it returns false'. Refute it at one input. -/
def storeAgainWrong : ChangeSpec := { name := "storeAgain", fn := fun _ => fun
  | [d1, d2] => { results := [.lit (.bool false)], args := [d1, d2] }
  | _ => none }
def StoreAgainWrongFalsely : Prop := storeAgainRow.holds Tryd.pinned (OpenSpec.ofChange storeAgainWrong)

/-- 'skewerlaw33.StoreLimits': WHATEVER THE INPUT: true; the input reads as it did. -/
def storeLimitsSpec : ChangeSpec := { name := "storeLimits", fn := fun _ => fun
  | [d1, d2, d3] => { results := [.lit (.bool true)], args := [d1, d2, d3] }
  | _ => none }
def storeLimitsRow : OpenClaim := { program := "ytaclinnjekdgoaadoor", sum := "5f4c3ec2b7e085ba874d23a94a5f3f4907d36fbbcb8a6ed46948e96d8d8c50e6", func := "skewer/skewerlaw33.StoreLimits", spec := "storeLimits", unfollowed := true, recurses := true, named := ["skewer/hash.begin", "skewer/hash.keys"], apart := false, laid := [("skewer/hash.begin", laid_skewer_hash_begin), ("skewer/hash.keys", laid_skewer_hash_keys)] }
def StoreLimitsSaid : Prop := storeLimitsRow.holds Tryd.pinned (OpenSpec.ofChange storeLimitsSpec)

/-- ITS FALSE NEIGHBOUR: 'it returns false'. Refute it at one input. -/
def storeLimitsWrong : ChangeSpec := { name := "storeLimits", fn := fun _ => fun
  | [d1, d2, d3] => { results := [.lit (.bool false)], args := [d1, d2, d3] }
  | _ => none }
def StoreLimitsWrongFalsely : Prop := storeLimitsRow.holds Tryd.pinned (OpenSpec.ofChange storeLimitsWrong)

/- THE SECOND FORM. 'bulk': how many values and letters a reading holds, each counted each time it is reached (what is shared counts as often as it is met; a slice's spare places count too). A statement '..UptoSaid' is the law's where the arguments, and the package variables that the reading takes, are together of bulk at most 1048576: NARROWER than '..Said'. Prove '..Said' where nothing that the law and all that it calls make is longer than what came in: it says more and counts as full. Else prove '..UptoSaid'. A law counts once. -/
mutual
def uptoBulk {H : Type} : DataW H → Nat
  | .lit (.string bytes) => bytes.length + 1
  | .lit _ => 1
  | .nil => 1
  | .ptr d => uptoBulk d + 1
  | .slice elems spare => uptoBulkAll elems + uptoBulkAll spare + 1
  | .agg parts => uptoBulkAll parts + 1
  | .iface _ d => uptoBulk d + 1
  | .map entries => uptoBulkEntries entries + 1
  | .held _ => 1
def uptoBulkAll {H : Type} : List (DataW H) → Nat
  | [] => 0
  | d :: r => uptoBulk d + uptoBulkAll r
def uptoBulkEntries {H : Type} : List (Lit × DataW H) → Nat
  | [] => 0
  | x :: r => uptoBulkEntry x + uptoBulkEntries r
def uptoBulkEntry {H : Type} : Lit × DataW H → Nat
  | (.string bytes, d) => bytes.length + uptoBulk d + 1
  | (_, d) => uptoBulk d + 1
 end
def uptoSmall : (H : Type) → List (DataW H) → Bool := fun _ ds => decide (uptoBulkAll ds ≤ 1048576)
def OpenSpec.upto (s : _root_.Go.ChangeSpec) : _root_.Go.OpenSpec := { _root_.Go.OpenSpec.ofChange s with cond := some uptoSmall }

/-- 'skewerlaw33.StoreSound', WHERE WHAT IT READS IS OF BULK AT MOST 1048576: true; the input reads as it did. -/
def storeSoundUptoRow : OpenClaim := { program := "ytaclinnjekdgoaadoor", sum := "5f4c3ec2b7e085ba874d23a94a5f3f4907d36fbbcb8a6ed46948e96d8d8c50e6", func := "skewer/skewerlaw33.StoreSound", spec := "storeSound", unfollowed := true, recurses := true, named := ["skewer/hash.begin", "skewer/hash.keys"], apart := false, laid := [("skewer/hash.begin", laid_skewer_hash_begin), ("skewer/hash.keys", laid_skewer_hash_keys)], narrowed := true }
def StoreSoundUptoSaid : Prop := storeSoundUptoRow.holds Tryd.pinned (OpenSpec.upto storeSoundSpec)

/-- 'skewerlaw33.StoreGets', WHERE WHAT IT READS IS OF BULK AT MOST 1048576: true; the input reads as it did. -/
def storeGetsUptoRow : OpenClaim := { program := "ytaclinnjekdgoaadoor", sum := "5f4c3ec2b7e085ba874d23a94a5f3f4907d36fbbcb8a6ed46948e96d8d8c50e6", func := "skewer/skewerlaw33.StoreGets", spec := "storeGets", unfollowed := true, recurses := true, named := ["skewer/hash.begin", "skewer/hash.keys"], apart := false, laid := [("skewer/hash.begin", laid_skewer_hash_begin), ("skewer/hash.keys", laid_skewer_hash_keys)], narrowed := true }
def StoreGetsUptoSaid : Prop := storeGetsUptoRow.holds Tryd.pinned (OpenSpec.upto storeGetsSpec)

/-- 'skewerlaw33.StoreCrashes', WHERE WHAT IT READS IS OF BULK AT MOST 1048576: true; the input reads as it did. -/
def storeCrashesUptoRow : OpenClaim := { program := "ytaclinnjekdgoaadoor", sum := "5f4c3ec2b7e085ba874d23a94a5f3f4907d36fbbcb8a6ed46948e96d8d8c50e6", func := "skewer/skewerlaw33.StoreCrashes", spec := "storeCrashes", unfollowed := true, recurses := true, named := ["skewer/hash.begin", "skewer/hash.keys"], apart := false, laid := [("skewer/hash.begin", laid_skewer_hash_begin), ("skewer/hash.keys", laid_skewer_hash_keys)], narrowed := true }
def StoreCrashesUptoSaid : Prop := storeCrashesUptoRow.holds Tryd.pinned (OpenSpec.upto storeCrashesSpec)

/-- 'skewerlaw33.StoreSyncs', WHERE WHAT IT READS IS OF BULK AT MOST 1048576: true; the input reads as it did. -/
def storeSyncsUptoRow : OpenClaim := { program := "ytaclinnjekdgoaadoor", sum := "5f4c3ec2b7e085ba874d23a94a5f3f4907d36fbbcb8a6ed46948e96d8d8c50e6", func := "skewer/skewerlaw33.StoreSyncs", spec := "storeSyncs", unfollowed := true, recurses := true, named := ["skewer/hash.begin", "skewer/hash.keys"], apart := false, laid := [("skewer/hash.begin", laid_skewer_hash_begin), ("skewer/hash.keys", laid_skewer_hash_keys)], narrowed := true }
def StoreSyncsUptoSaid : Prop := storeSyncsUptoRow.holds Tryd.pinned (OpenSpec.upto storeSyncsSpec)

/-- 'skewerlaw33.StoreDamage', WHERE WHAT IT READS IS OF BULK AT MOST 1048576: true; the input reads as it did. -/
def storeDamageUptoRow : OpenClaim := { program := "ytaclinnjekdgoaadoor", sum := "5f4c3ec2b7e085ba874d23a94a5f3f4907d36fbbcb8a6ed46948e96d8d8c50e6", func := "skewer/skewerlaw33.StoreDamage", spec := "storeDamage", unfollowed := true, recurses := true, named := ["skewer/hash.begin", "skewer/hash.keys"], apart := false, laid := [("skewer/hash.begin", laid_skewer_hash_begin), ("skewer/hash.keys", laid_skewer_hash_keys)], narrowed := true }
def StoreDamageUptoSaid : Prop := storeDamageUptoRow.holds Tryd.pinned (OpenSpec.upto storeDamageSpec)

/-- 'skewerlaw33.StoreAgain', WHERE WHAT IT READS IS OF BULK AT MOST 1048576: true; the input reads as it did. -/
def storeAgainUptoRow : OpenClaim := { program := "ytaclinnjekdgoaadoor", sum := "5f4c3ec2b7e085ba874d23a94a5f3f4907d36fbbcb8a6ed46948e96d8d8c50e6", func := "skewer/skewerlaw33.StoreAgain", spec := "storeAgain", unfollowed := true, recurses := true, named := ["skewer/hash.begin", "skewer/hash.keys"], apart := false, laid := [("skewer/hash.begin", laid_skewer_hash_begin), ("skewer/hash.keys", laid_skewer_hash_keys)], narrowed := true }
def StoreAgainUptoSaid : Prop := storeAgainUptoRow.holds Tryd.pinned (OpenSpec.upto storeAgainSpec)

/-- 'skewerlaw33.StoreLimits', WHERE WHAT IT READS IS OF BULK AT MOST 1048576: true; the input reads as it did. -/
def storeLimitsUptoRow : OpenClaim := { program := "ytaclinnjekdgoaadoor", sum := "5f4c3ec2b7e085ba874d23a94a5f3f4907d36fbbcb8a6ed46948e96d8d8c50e6", func := "skewer/skewerlaw33.StoreLimits", spec := "storeLimits", unfollowed := true, recurses := true, named := ["skewer/hash.begin", "skewer/hash.keys"], apart := false, laid := [("skewer/hash.begin", laid_skewer_hash_begin), ("skewer/hash.keys", laid_skewer_hash_keys)], narrowed := true }
def StoreLimitsUptoSaid : Prop := storeLimitsUptoRow.holds Tryd.pinned (OpenSpec.upto storeLimitsSpec)

end Rows
end Go.Proofs.YtaclinnjekdgoaaDoor
