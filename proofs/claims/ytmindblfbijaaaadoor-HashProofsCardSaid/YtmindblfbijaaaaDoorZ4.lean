/-
  Lemmas, part 4 of 6: walks through the program's functions, and plain Lean about what they compute.
-/
import Derived.Test.YtmindblfbijaaaaDoorProg
import Derived.Test.YtmindblfbijaaaaDoorZ1
import Derived.Test.YtmindblfbijaaaaDoorZ2
import Derived.Test.YtmindblfbijaaaaDoorZ3
set_option linter.unnecessarySimpa false
set_option linter.unusedSimpArgs false
set_option linter.unusedVariables false
namespace Go.Proofs.YtmindblfbijaaaaDoor
open Go.RowKit
set_option maxRecDepth 100000
theorem ag1 : aggT Tryd.prog 1 = some false := by kernel_rfl
theorem sz1 : sizeT Tryd.prog 1 = some 1 := by kernel_rfl
theorem ag2 : aggT Tryd.prog 2 = some false := by kernel_rfl
theorem sz2 : sizeT Tryd.prog 2 = some 1 := by kernel_rfl
theorem ze2 : zeroD Tryd.prog 2 = some [.v (Go.Value.int Go.IntKind.i64 0)] := by kernel_rfl
theorem ag3 : aggT Tryd.prog 3 = some false := by kernel_rfl
theorem sz3 : sizeT Tryd.prog 3 = some 1 := by kernel_rfl
theorem ze3 : zeroD Tryd.prog 3 = some [.v (Go.Value.int Go.IntKind.i64 0)] := by kernel_rfl
theorem ag4 : aggT Tryd.prog 4 = some false := by kernel_rfl
theorem sz4 : sizeT Tryd.prog 4 = some 1 := by kernel_rfl
theorem ze4 : zeroD Tryd.prog 4 = some [.v (Go.Value.bool false)] := by kernel_rfl
theorem ag5 : aggT Tryd.prog 5 = some false := by kernel_rfl
theorem sz5 : sizeT Tryd.prog 5 = some 1 := by kernel_rfl
theorem ze5 : zeroD Tryd.prog 5 = some [.v (Go.Value.int Go.IntKind.u8 0)] := by kernel_rfl
theorem ag6 : aggT Tryd.prog 6 = some false := by kernel_rfl
theorem sz6 : sizeT Tryd.prog 6 = some 1 := by kernel_rfl
theorem ze6 : zeroD Tryd.prog 6 = some [.v (Go.Value.int Go.IntKind.u8 0)] := by kernel_rfl
theorem ag7 : aggT Tryd.prog 7 = some true := by kernel_rfl
theorem sz7 : sizeT Tryd.prog 7 = some 4 := by kernel_rfl
theorem ze7 : zeroD Tryd.prog 7 = some [.v (Go.Value.int Go.IntKind.i64 0), .v (Go.Value.int Go.IntKind.i64 0), .v (Go.Value.bool false), .v (Go.Value.int Go.IntKind.u8 0)] := by kernel_rfl
theorem ag8 : aggT Tryd.prog 8 = some true := by kernel_rfl
theorem sz8 : sizeT Tryd.prog 8 = some 4 := by kernel_rfl
theorem ze8 : zeroD Tryd.prog 8 = some [.v (Go.Value.int Go.IntKind.i64 0), .v (Go.Value.int Go.IntKind.i64 0), .v (Go.Value.bool false), .v (Go.Value.int Go.IntKind.u8 0)] := by kernel_rfl
theorem ag9 : aggT Tryd.prog 9 = some false := by kernel_rfl
theorem sz9 : sizeT Tryd.prog 9 = some 1 := by kernel_rfl
theorem ze9 : zeroD Tryd.prog 9 = some [.v (Go.Value.string { data := #[] })] := by kernel_rfl
theorem ag10 : aggT Tryd.prog 10 = some false := by kernel_rfl
theorem sz10 : sizeT Tryd.prog 10 = some 1 := by kernel_rfl
theorem ze10 : zeroD Tryd.prog 10 = some [.v (Go.Value.string { data := #[] })] := by kernel_rfl
theorem ag11 : aggT Tryd.prog 11 = some false := by kernel_rfl
theorem sz11 : sizeT Tryd.prog 11 = some 1 := by kernel_rfl
theorem ze11 : zeroD Tryd.prog 11 = some [.v (Go.Value.string { data := #[] })] := by kernel_rfl
theorem ag12 : aggT Tryd.prog 12 = some false := by kernel_rfl
theorem sz12 : sizeT Tryd.prog 12 = some 1 := by kernel_rfl
theorem ze12 : zeroD Tryd.prog 12 = some [.v (Go.Value.int Go.IntKind.u64 0)] := by kernel_rfl
theorem ag13 : aggT Tryd.prog 13 = some true := by kernel_rfl
theorem sz13 : sizeT Tryd.prog 13 = some 2 := by kernel_rfl
theorem ze13 : zeroD Tryd.prog 13 = some [.v (Go.Value.string { data := #[] }), .v (Go.Value.int Go.IntKind.u64 0)] := by kernel_rfl
theorem ag14 : aggT Tryd.prog 14 = some true := by kernel_rfl
theorem sz14 : sizeT Tryd.prog 14 = some 2 := by kernel_rfl
theorem ze14 : zeroD Tryd.prog 14 = some [.v (Go.Value.string { data := #[] }), .v (Go.Value.int Go.IntKind.u64 0)] := by kernel_rfl
theorem ag15 : aggT Tryd.prog 15 = some false := by kernel_rfl
theorem sz15 : sizeT Tryd.prog 15 = some 1 := by kernel_rfl
theorem ag16 : aggT Tryd.prog 16 = some false := by kernel_rfl
theorem sz16 : sizeT Tryd.prog 16 = some 1 := by kernel_rfl
theorem ag17 : aggT Tryd.prog 17 = some false := by kernel_rfl
theorem sz17 : sizeT Tryd.prog 17 = some 1 := by kernel_rfl
theorem ag18 : aggT Tryd.prog 18 = some true := by kernel_rfl
theorem sz18 : sizeT Tryd.prog 18 = some 1 := by kernel_rfl
theorem ze18 : zeroD Tryd.prog 18 = some [.v (Go.Value.pointer none)] := by kernel_rfl
theorem ag19 : aggT Tryd.prog 19 = some true := by kernel_rfl
theorem sz19 : sizeT Tryd.prog 19 = some 1 := by kernel_rfl
theorem ze19 : zeroD Tryd.prog 19 = some [.v (Go.Value.pointer none)] := by kernel_rfl
theorem ag20 : aggT Tryd.prog 20 = some false := by kernel_rfl
theorem sz20 : sizeT Tryd.prog 20 = some 1 := by kernel_rfl
theorem ag21 : aggT Tryd.prog 21 = some false := by kernel_rfl
theorem sz21 : sizeT Tryd.prog 21 = some 1 := by kernel_rfl
theorem ze21 : zeroD Tryd.prog 21 = some [.v (Go.Value.int Go.IntKind.i32 0)] := by kernel_rfl
theorem ag22 : aggT Tryd.prog 22 = some false := by kernel_rfl
theorem sz22 : sizeT Tryd.prog 22 = some 1 := by kernel_rfl
theorem ze22 : zeroD Tryd.prog 22 = some [.list 0 [] true] := by kernel_rfl
theorem ag23 : aggT Tryd.prog 23 = some false := by kernel_rfl
theorem sz23 : sizeT Tryd.prog 23 = some 1 := by kernel_rfl
theorem ze23 : zeroD Tryd.prog 23 = some [.list 0 [] true] := by kernel_rfl
theorem ag24 : aggT Tryd.prog 24 = some true := by kernel_rfl
theorem sz24 : sizeT Tryd.prog 24 = some 4 := by kernel_rfl
theorem ze24 : zeroD Tryd.prog 24 = some [.v (Go.Value.int Go.IntKind.u8 0), .v (Go.Value.int Go.IntKind.u8 0), .v (Go.Value.int Go.IntKind.u8 0), .v (Go.Value.int Go.IntKind.u8 0)] := by kernel_rfl
theorem ag25 : aggT Tryd.prog 25 = some false := by kernel_rfl
theorem sz25 : sizeT Tryd.prog 25 = some 1 := by kernel_rfl
theorem ag26 : aggT Tryd.prog 26 = some false := by kernel_rfl
theorem sz26 : sizeT Tryd.prog 26 = some 1 := by kernel_rfl
theorem ag27 : aggT Tryd.prog 27 = some true := by kernel_rfl
theorem sz27 : sizeT Tryd.prog 27 = some 32 := by kernel_rfl
theorem ze27 : zeroD Tryd.prog 27 = some [.v (Go.Value.int Go.IntKind.u8 0), .v (Go.Value.int Go.IntKind.u8 0), .v (Go.Value.int Go.IntKind.u8 0), .v (Go.Value.int Go.IntKind.u8 0), .v (Go.Value.int Go.IntKind.u8 0), .v (Go.Value.int Go.IntKind.u8 0), .v (Go.Value.int Go.IntKind.u8 0), .v (Go.Value.int Go.IntKind.u8 0), .v (Go.Value.int Go.IntKind.u8 0), .v (Go.Value.int Go.IntKind.u8 0), .v (Go.Value.int Go.IntKind.u8 0), .v (Go.Value.int Go.IntKind.u8 0), .v (Go.Value.int Go.IntKind.u8 0), .v (Go.Value.int Go.IntKind.u8 0), .v (Go.Value.int Go.IntKind.u8 0), .v (Go.Value.int Go.IntKind.u8 0), .v (Go.Value.int Go.IntKind.u8 0), .v (Go.Value.int Go.IntKind.u8 0), .v (Go.Value.int Go.IntKind.u8 0), .v (Go.Value.int Go.IntKind.u8 0), .v (Go.Value.int Go.IntKind.u8 0), .v (Go.Value.int Go.IntKind.u8 0), .v (Go.Value.int Go.IntKind.u8 0), .v (Go.Value.int Go.IntKind.u8 0), .v (Go.Value.int Go.IntKind.u8 0), .v (Go.Value.int Go.IntKind.u8 0), .v (Go.Value.int Go.IntKind.u8 0), .v (Go.Value.int Go.IntKind.u8 0), .v (Go.Value.int Go.IntKind.u8 0), .v (Go.Value.int Go.IntKind.u8 0), .v (Go.Value.int Go.IntKind.u8 0), .v (Go.Value.int Go.IntKind.u8 0)] := by kernel_rfl
theorem ag28 : aggT Tryd.prog 28 = some true := by kernel_rfl
theorem sz28 : sizeT Tryd.prog 28 = some 32 := by kernel_rfl
theorem ze28 : zeroD Tryd.prog 28 = some [.v (Go.Value.int Go.IntKind.u8 0), .v (Go.Value.int Go.IntKind.u8 0), .v (Go.Value.int Go.IntKind.u8 0), .v (Go.Value.int Go.IntKind.u8 0), .v (Go.Value.int Go.IntKind.u8 0), .v (Go.Value.int Go.IntKind.u8 0), .v (Go.Value.int Go.IntKind.u8 0), .v (Go.Value.int Go.IntKind.u8 0), .v (Go.Value.int Go.IntKind.u8 0), .v (Go.Value.int Go.IntKind.u8 0), .v (Go.Value.int Go.IntKind.u8 0), .v (Go.Value.int Go.IntKind.u8 0), .v (Go.Value.int Go.IntKind.u8 0), .v (Go.Value.int Go.IntKind.u8 0), .v (Go.Value.int Go.IntKind.u8 0), .v (Go.Value.int Go.IntKind.u8 0), .v (Go.Value.int Go.IntKind.u8 0), .v (Go.Value.int Go.IntKind.u8 0), .v (Go.Value.int Go.IntKind.u8 0), .v (Go.Value.int Go.IntKind.u8 0), .v (Go.Value.int Go.IntKind.u8 0), .v (Go.Value.int Go.IntKind.u8 0), .v (Go.Value.int Go.IntKind.u8 0), .v (Go.Value.int Go.IntKind.u8 0), .v (Go.Value.int Go.IntKind.u8 0), .v (Go.Value.int Go.IntKind.u8 0), .v (Go.Value.int Go.IntKind.u8 0), .v (Go.Value.int Go.IntKind.u8 0), .v (Go.Value.int Go.IntKind.u8 0), .v (Go.Value.int Go.IntKind.u8 0), .v (Go.Value.int Go.IntKind.u8 0), .v (Go.Value.int Go.IntKind.u8 0)] := by kernel_rfl
theorem ag29 : aggT Tryd.prog 29 = some false := by kernel_rfl
theorem sz29 : sizeT Tryd.prog 29 = some 1 := by kernel_rfl
theorem ag30 : aggT Tryd.prog 30 = some false := by kernel_rfl
theorem sz30 : sizeT Tryd.prog 30 = some 1 := by kernel_rfl
theorem ag31 : aggT Tryd.prog 31 = some false := by kernel_rfl
theorem sz31 : sizeT Tryd.prog 31 = some 1 := by kernel_rfl
theorem ag32 : aggT Tryd.prog 32 = some false := by kernel_rfl
theorem sz32 : sizeT Tryd.prog 32 = some 1 := by kernel_rfl
theorem ze32 : zeroD Tryd.prog 32 = some [.list 0 [] true] := by kernel_rfl
theorem ag33 : aggT Tryd.prog 33 = some false := by kernel_rfl
theorem sz33 : sizeT Tryd.prog 33 = some 1 := by kernel_rfl
theorem ze33 : zeroD Tryd.prog 33 = some [.v (Go.Value.int Go.IntKind.i64 0)] := by kernel_rfl
theorem ag35 : aggT Tryd.prog 35 = some false := by kernel_rfl
theorem sz35 : sizeT Tryd.prog 35 = some 1 := by kernel_rfl
theorem ag36 : aggT Tryd.prog 36 = some true := by kernel_rfl
theorem sz36 : sizeT Tryd.prog 36 = some 2 := by kernel_rfl
theorem ze36 : zeroD Tryd.prog 36 = some [.list 0 [] true, .v (Go.Value.int Go.IntKind.i64 0)] := by kernel_rfl
theorem ag37 : aggT Tryd.prog 37 = some true := by kernel_rfl
theorem sz37 : sizeT Tryd.prog 37 = some 2 := by kernel_rfl
theorem ze37 : zeroD Tryd.prog 37 = some [.list 0 [] true, .v (Go.Value.int Go.IntKind.i64 0)] := by kernel_rfl
theorem ag38 : aggT Tryd.prog 38 = some false := by kernel_rfl
theorem sz38 : sizeT Tryd.prog 38 = some 1 := by kernel_rfl
theorem ag39 : aggT Tryd.prog 39 = some false := by kernel_rfl
theorem sz39 : sizeT Tryd.prog 39 = some 1 := by kernel_rfl
theorem ag40 : aggT Tryd.prog 40 = some false := by kernel_rfl
theorem sz40 : sizeT Tryd.prog 40 = some 1 := by kernel_rfl
theorem ag41 : aggT Tryd.prog 41 = some false := by kernel_rfl
theorem sz41 : sizeT Tryd.prog 41 = some 1 := by kernel_rfl
theorem ag42 : aggT Tryd.prog 42 = some false := by kernel_rfl
theorem sz42 : sizeT Tryd.prog 42 = some 1 := by kernel_rfl
theorem ag43 : aggT Tryd.prog 43 = some false := by kernel_rfl
theorem sz43 : sizeT Tryd.prog 43 = some 1 := by kernel_rfl
theorem ag44 : aggT Tryd.prog 44 = some false := by kernel_rfl
theorem sz44 : sizeT Tryd.prog 44 = some 1 := by kernel_rfl
theorem ag45 : aggT Tryd.prog 45 = some false := by kernel_rfl
theorem sz45 : sizeT Tryd.prog 45 = some 1 := by kernel_rfl
theorem ze45 : zeroD Tryd.prog 45 = some [.v (Go.Value.int Go.IntKind.u16 0)] := by kernel_rfl
theorem ag46 : aggT Tryd.prog 46 = some true := by kernel_rfl
theorem sz46 : sizeT Tryd.prog 46 = some 5 := by kernel_rfl
theorem ze46 : zeroD Tryd.prog 46 = some [.v (Go.Value.int Go.IntKind.u16 0), .v (Go.Value.int Go.IntKind.u16 0), .v (Go.Value.int Go.IntKind.u16 0), .v (Go.Value.int Go.IntKind.u16 0), .v (Go.Value.int Go.IntKind.u16 0)] := by kernel_rfl
theorem ag47 : aggT Tryd.prog 47 = some false := by kernel_rfl
theorem sz47 : sizeT Tryd.prog 47 = some 1 := by kernel_rfl
theorem ze47 : zeroD Tryd.prog 47 = some [.list 0 [] true] := by kernel_rfl
theorem ag48 : aggT Tryd.prog 48 = some false := by kernel_rfl
theorem sz48 : sizeT Tryd.prog 48 = some 1 := by kernel_rfl
theorem ag49 : aggT Tryd.prog 49 = some false := by kernel_rfl
theorem sz49 : sizeT Tryd.prog 49 = some 1 := by kernel_rfl
theorem ag50 : aggT Tryd.prog 50 = some false := by kernel_rfl
theorem sz50 : sizeT Tryd.prog 50 = some 1 := by kernel_rfl
theorem ag51 : aggT Tryd.prog 51 = some false := by kernel_rfl
theorem sz51 : sizeT Tryd.prog 51 = some 1 := by kernel_rfl
theorem ag52 : aggT Tryd.prog 52 = some false := by kernel_rfl
theorem sz52 : sizeT Tryd.prog 52 = some 1 := by kernel_rfl
theorem ag53 : aggT Tryd.prog 53 = some false := by kernel_rfl
theorem sz53 : sizeT Tryd.prog 53 = some 1 := by kernel_rfl
theorem ag54 : aggT Tryd.prog 54 = some false := by kernel_rfl
theorem sz54 : sizeT Tryd.prog 54 = some 1 := by kernel_rfl
theorem ag55 : aggT Tryd.prog 55 = some false := by kernel_rfl
theorem sz55 : sizeT Tryd.prog 55 = some 1 := by kernel_rfl
theorem ze55 : zeroD Tryd.prog 55 = some [.v (Go.Value.int Go.IntKind.u64 0)] := by kernel_rfl
theorem ag56 : aggT Tryd.prog 56 = some false := by kernel_rfl
theorem sz56 : sizeT Tryd.prog 56 = some 1 := by kernel_rfl
theorem ze56 : zeroD Tryd.prog 56 = some [.v (Go.Value.int Go.IntKind.u32 0)] := by kernel_rfl
theorem ag57 : aggT Tryd.prog 57 = some true := by kernel_rfl
theorem sz57 : sizeT Tryd.prog 57 = some 8 := by kernel_rfl
theorem ze57 : zeroD Tryd.prog 57 = some [.v (Go.Value.int Go.IntKind.u32 0), .v (Go.Value.int Go.IntKind.u32 0), .v (Go.Value.int Go.IntKind.u32 0), .v (Go.Value.int Go.IntKind.u32 0), .v (Go.Value.int Go.IntKind.u32 0), .v (Go.Value.int Go.IntKind.u32 0), .v (Go.Value.int Go.IntKind.u32 0), .v (Go.Value.int Go.IntKind.u32 0)] := by kernel_rfl
theorem ag58 : aggT Tryd.prog 58 = some false := by kernel_rfl
theorem sz58 : sizeT Tryd.prog 58 = some 1 := by kernel_rfl
theorem ag59 : aggT Tryd.prog 59 = some false := by kernel_rfl
theorem sz59 : sizeT Tryd.prog 59 = some 1 := by kernel_rfl
theorem ag60 : aggT Tryd.prog 60 = some false := by kernel_rfl
theorem sz60 : sizeT Tryd.prog 60 = some 1 := by kernel_rfl
theorem ag61 : aggT Tryd.prog 61 = some false := by kernel_rfl
theorem sz61 : sizeT Tryd.prog 61 = some 1 := by kernel_rfl
theorem ag62 : aggT Tryd.prog 62 = some false := by kernel_rfl
theorem sz62 : sizeT Tryd.prog 62 = some 1 := by kernel_rfl
theorem ag63 : aggT Tryd.prog 63 = some false := by kernel_rfl
theorem sz63 : sizeT Tryd.prog 63 = some 1 := by kernel_rfl
theorem ag64 : aggT Tryd.prog 64 = some false := by kernel_rfl
theorem sz64 : sizeT Tryd.prog 64 = some 1 := by kernel_rfl
theorem ag65 : aggT Tryd.prog 65 = some false := by kernel_rfl
theorem sz65 : sizeT Tryd.prog 65 = some 1 := by kernel_rfl
theorem ag66 : aggT Tryd.prog 66 = some false := by kernel_rfl
theorem sz66 : sizeT Tryd.prog 66 = some 1 := by kernel_rfl
theorem ag68 : aggT Tryd.prog 68 = some false := by kernel_rfl
theorem sz68 : sizeT Tryd.prog 68 = some 1 := by kernel_rfl
theorem ze68 : zeroD Tryd.prog 68 = some [.list 0 [] true] := by kernel_rfl
theorem ag70 : aggT Tryd.prog 70 = some false := by kernel_rfl
theorem sz70 : sizeT Tryd.prog 70 = some 1 := by kernel_rfl
theorem ag71 : aggT Tryd.prog 71 = some false := by kernel_rfl
theorem sz71 : sizeT Tryd.prog 71 = some 1 := by kernel_rfl
theorem ze71 : zeroD Tryd.prog 71 = some [.v (Go.Value.int Go.IntKind.u64 0)] := by kernel_rfl
theorem ag72 : aggT Tryd.prog 72 = some false := by kernel_rfl
theorem sz72 : sizeT Tryd.prog 72 = some 1 := by kernel_rfl
theorem ag73 : aggT Tryd.prog 73 = some true := by kernel_rfl
theorem sz73 : sizeT Tryd.prog 73 = some 64 := by kernel_rfl
theorem ze73 : zeroD Tryd.prog 73 = some [.v (Go.Value.int Go.IntKind.u32 0), .v (Go.Value.int Go.IntKind.u32 0), .v (Go.Value.int Go.IntKind.u32 0), .v (Go.Value.int Go.IntKind.u32 0), .v (Go.Value.int Go.IntKind.u32 0), .v (Go.Value.int Go.IntKind.u32 0), .v (Go.Value.int Go.IntKind.u32 0), .v (Go.Value.int Go.IntKind.u32 0), .v (Go.Value.int Go.IntKind.u32 0), .v (Go.Value.int Go.IntKind.u32 0), .v (Go.Value.int Go.IntKind.u32 0), .v (Go.Value.int Go.IntKind.u32 0), .v (Go.Value.int Go.IntKind.u32 0), .v (Go.Value.int Go.IntKind.u32 0), .v (Go.Value.int Go.IntKind.u32 0), .v (Go.Value.int Go.IntKind.u32 0), .v (Go.Value.int Go.IntKind.u32 0), .v (Go.Value.int Go.IntKind.u32 0), .v (Go.Value.int Go.IntKind.u32 0), .v (Go.Value.int Go.IntKind.u32 0), .v (Go.Value.int Go.IntKind.u32 0), .v (Go.Value.int Go.IntKind.u32 0), .v (Go.Value.int Go.IntKind.u32 0), .v (Go.Value.int Go.IntKind.u32 0), .v (Go.Value.int Go.IntKind.u32 0), .v (Go.Value.int Go.IntKind.u32 0), .v (Go.Value.int Go.IntKind.u32 0), .v (Go.Value.int Go.IntKind.u32 0), .v (Go.Value.int Go.IntKind.u32 0), .v (Go.Value.int Go.IntKind.u32 0), .v (Go.Value.int Go.IntKind.u32 0), .v (Go.Value.int Go.IntKind.u32 0), .v (Go.Value.int Go.IntKind.u32 0), .v (Go.Value.int Go.IntKind.u32 0), .v (Go.Value.int Go.IntKind.u32 0), .v (Go.Value.int Go.IntKind.u32 0), .v (Go.Value.int Go.IntKind.u32 0), .v (Go.Value.int Go.IntKind.u32 0), .v (Go.Value.int Go.IntKind.u32 0), .v (Go.Value.int Go.IntKind.u32 0), .v (Go.Value.int Go.IntKind.u32 0), .v (Go.Value.int Go.IntKind.u32 0), .v (Go.Value.int Go.IntKind.u32 0), .v (Go.Value.int Go.IntKind.u32 0), .v (Go.Value.int Go.IntKind.u32 0), .v (Go.Value.int Go.IntKind.u32 0), .v (Go.Value.int Go.IntKind.u32 0), .v (Go.Value.int Go.IntKind.u32 0), .v (Go.Value.int Go.IntKind.u32 0), .v (Go.Value.int Go.IntKind.u32 0), .v (Go.Value.int Go.IntKind.u32 0), .v (Go.Value.int Go.IntKind.u32 0), .v (Go.Value.int Go.IntKind.u32 0), .v (Go.Value.int Go.IntKind.u32 0), .v (Go.Value.int Go.IntKind.u32 0), .v (Go.Value.int Go.IntKind.u32 0), .v (Go.Value.int Go.IntKind.u32 0), .v (Go.Value.int Go.IntKind.u32 0), .v (Go.Value.int Go.IntKind.u32 0), .v (Go.Value.int Go.IntKind.u32 0), .v (Go.Value.int Go.IntKind.u32 0), .v (Go.Value.int Go.IntKind.u32 0), .v (Go.Value.int Go.IntKind.u32 0), .v (Go.Value.int Go.IntKind.u32 0)] := by kernel_rfl
theorem ag74 : aggT Tryd.prog 74 = some false := by kernel_rfl
theorem sz74 : sizeT Tryd.prog 74 = some 1 := by kernel_rfl
theorem ag75 : aggT Tryd.prog 75 = some false := by kernel_rfl
theorem sz75 : sizeT Tryd.prog 75 = some 1 := by kernel_rfl
theorem ag76 : aggT Tryd.prog 76 = some false := by kernel_rfl
theorem sz76 : sizeT Tryd.prog 76 = some 1 := by kernel_rfl
theorem ze76 : zeroD Tryd.prog 76 = some [.list 0 [] true] := by kernel_rfl
theorem ag77 : aggT Tryd.prog 77 = some false := by kernel_rfl
theorem sz77 : sizeT Tryd.prog 77 = some 1 := by kernel_rfl
theorem ag78 : aggT Tryd.prog 78 = some false := by kernel_rfl
theorem sz78 : sizeT Tryd.prog 78 = some 1 := by kernel_rfl
theorem ag79 : aggT Tryd.prog 79 = some false := by kernel_rfl
theorem sz79 : sizeT Tryd.prog 79 = some 1 := by kernel_rfl
theorem ag80 : aggT Tryd.prog 80 = some false := by kernel_rfl
theorem sz80 : sizeT Tryd.prog 80 = some 1 := by kernel_rfl
theorem ag81 : aggT Tryd.prog 81 = some false := by kernel_rfl
theorem sz81 : sizeT Tryd.prog 81 = some 1 := by kernel_rfl
theorem ag82 : aggT Tryd.prog 82 = some false := by kernel_rfl
theorem sz82 : sizeT Tryd.prog 82 = some 1 := by kernel_rfl
theorem ag83 : aggT Tryd.prog 83 = some false := by kernel_rfl
theorem sz83 : sizeT Tryd.prog 83 = some 1 := by kernel_rfl
theorem ag84 : aggT Tryd.prog 84 = some false := by kernel_rfl
theorem sz84 : sizeT Tryd.prog 84 = some 1 := by kernel_rfl
theorem ag85 : aggT Tryd.prog 85 = some false := by kernel_rfl
theorem sz85 : sizeT Tryd.prog 85 = some 1 := by kernel_rfl
theorem ag86 : aggT Tryd.prog 86 = some true := by kernel_rfl
theorem sz86 : sizeT Tryd.prog 86 = some 4 := by kernel_rfl
theorem ze86 : zeroD Tryd.prog 86 = some [.v (Go.Value.pointer none), .v (Go.Value.pointer none), .v (Go.Value.pointer none), .v (Go.Value.string { data := #[] })] := by kernel_rfl
theorem ag87 : aggT Tryd.prog 87 = some true := by kernel_rfl
theorem sz87 : sizeT Tryd.prog 87 = some 4 := by kernel_rfl
theorem ze87 : zeroD Tryd.prog 87 = some [.v (Go.Value.pointer none), .v (Go.Value.pointer none), .v (Go.Value.pointer none), .v (Go.Value.string { data := #[] })] := by kernel_rfl
theorem ag88 : aggT Tryd.prog 88 = some true := by kernel_rfl
theorem sz88 : sizeT Tryd.prog 88 = some 0 := by kernel_rfl
theorem ze88 : zeroD Tryd.prog 88 = some [] := by kernel_rfl
theorem ag89 : aggT Tryd.prog 89 = some true := by kernel_rfl
theorem sz89 : sizeT Tryd.prog 89 = some 0 := by kernel_rfl
theorem ze89 : zeroD Tryd.prog 89 = some [] := by kernel_rfl
theorem ag90 : aggT Tryd.prog 90 = some true := by kernel_rfl
theorem sz90 : sizeT Tryd.prog 90 = some 0 := by kernel_rfl
theorem ze90 : zeroD Tryd.prog 90 = some [] := by kernel_rfl
theorem ag91 : aggT Tryd.prog 91 = some false := by kernel_rfl
theorem sz91 : sizeT Tryd.prog 91 = some 1 := by kernel_rfl
theorem ag92 : aggT Tryd.prog 92 = some false := by kernel_rfl
theorem sz92 : sizeT Tryd.prog 92 = some 1 := by kernel_rfl
theorem ze92 : zeroD Tryd.prog 92 = some [.v (Go.Value.int Go.IntKind.u8 0)] := by kernel_rfl
theorem ag93 : aggT Tryd.prog 93 = some false := by kernel_rfl
theorem sz93 : sizeT Tryd.prog 93 = some 1 := by kernel_rfl
theorem ze93 : zeroD Tryd.prog 93 = some [.v (Go.Value.int Go.IntKind.u8 0)] := by kernel_rfl
theorem ag94 : aggT Tryd.prog 94 = some false := by kernel_rfl
theorem sz94 : sizeT Tryd.prog 94 = some 1 := by kernel_rfl
theorem ag95 : aggT Tryd.prog 95 = some false := by kernel_rfl
theorem sz95 : sizeT Tryd.prog 95 = some 1 := by kernel_rfl
theorem ag96 : aggT Tryd.prog 96 = some false := by kernel_rfl
theorem sz96 : sizeT Tryd.prog 96 = some 1 := by kernel_rfl
theorem ze96 : zeroD Tryd.prog 96 = some [.v (Go.Value.int Go.IntKind.i32 0)] := by kernel_rfl
theorem ag97 : aggT Tryd.prog 97 = some false := by kernel_rfl
theorem sz97 : sizeT Tryd.prog 97 = some 1 := by kernel_rfl
theorem ze97 : zeroD Tryd.prog 97 = some [.v (Go.Value.int Go.IntKind.i32 0)] := by kernel_rfl
theorem ag98 : aggT Tryd.prog 98 = some true := by kernel_rfl
theorem sz98 : sizeT Tryd.prog 98 = some 11 := by kernel_rfl
theorem ze98 : zeroD Tryd.prog 98 = some [.v (Go.Value.int Go.IntKind.u64 0), .v (Go.Value.int Go.IntKind.u64 0), .v (Go.Value.int Go.IntKind.u32 0), .v (Go.Value.int Go.IntKind.u8 0), .v (Go.Value.int Go.IntKind.u8 0), .v (Go.Value.int Go.IntKind.u8 0), .v (Go.Value.int Go.IntKind.u8 0), .v (Go.Value.nilFunc), .v (Go.Value.pointer none), .v (Go.Value.int Go.IntKind.i32 0), .v (Go.Value.int Go.IntKind.i32 0)] := by kernel_rfl
theorem ag99 : aggT Tryd.prog 99 = some true := by kernel_rfl
theorem sz99 : sizeT Tryd.prog 99 = some 11 := by kernel_rfl
theorem ze99 : zeroD Tryd.prog 99 = some [.v (Go.Value.int Go.IntKind.u64 0), .v (Go.Value.int Go.IntKind.u64 0), .v (Go.Value.int Go.IntKind.u32 0), .v (Go.Value.int Go.IntKind.u8 0), .v (Go.Value.int Go.IntKind.u8 0), .v (Go.Value.int Go.IntKind.u8 0), .v (Go.Value.int Go.IntKind.u8 0), .v (Go.Value.nilFunc), .v (Go.Value.pointer none), .v (Go.Value.int Go.IntKind.i32 0), .v (Go.Value.int Go.IntKind.i32 0)] := by kernel_rfl
theorem ag100 : aggT Tryd.prog 100 = some false := by kernel_rfl
theorem sz100 : sizeT Tryd.prog 100 = some 1 := by kernel_rfl
attribute [go_sem] ag1 sz1 ag2 sz2 ze2 ag3 sz3 ze3 ag4 sz4 ze4 ag5 sz5 ze5 ag6 sz6 ze6 ag7 sz7 ze7 ag8 sz8 ze8 ag9 sz9 ze9 ag10 sz10 ze10 ag11 sz11 ze11 ag12 sz12 ze12 ag13 sz13 ze13 ag14 sz14
attribute [go_sem] ze14 ag15 sz15 ag16 sz16 ag17 sz17 ag18 sz18 ze18 ag19 sz19 ze19 ag20 sz20 ag21 sz21 ze21 ag22 sz22 ze22 ag23 sz23 ze23 ag24 sz24 ze24 ag25 sz25 ag26 sz26 ag27 sz27 ze27 ag28 sz28 ze28 ag29 sz29 ag30
attribute [go_sem] sz30 ag31 sz31 ag32 sz32 ze32 ag33 sz33 ze33 ag35 sz35 ag36 sz36 ze36 ag37 sz37 ze37 ag38 sz38 ag39 sz39 ag40 sz40 ag41 sz41 ag42 sz42 ag43 sz43 ag44 sz44 ag45 sz45 ze45 ag46 sz46 ze46 ag47 sz47 ze47
attribute [go_sem] ag48 sz48 ag49 sz49 ag50 sz50 ag51 sz51 ag52 sz52 ag53 sz53 ag54 sz54 ag55 sz55 ze55 ag56 sz56 ze56 ag57 sz57 ze57 ag58 sz58 ag59 sz59 ag60 sz60 ag61 sz61 ag62 sz62 ag63 sz63 ag64 sz64 ag65 sz65 ag66
attribute [go_sem] sz66 ag68 sz68 ze68 ag70 sz70 ag71 sz71 ze71 ag72 sz72 ag73 sz73 ze73 ag74 sz74 ag75 sz75 ag76 sz76 ze76 ag77 sz77 ag78 sz78 ag79 sz79 ag80 sz80 ag81 sz81 ag82 sz82 ag83 sz83 ag84 sz84 ag85 sz85 ag86
attribute [go_sem] sz86 ze86 ag87 sz87 ze87 ag88 sz88 ze88 ag89 sz89 ze89 ag90 sz90 ze90 ag91 sz91 ag92 sz92 ze92 ag93 sz93 ze93 ag94 sz94 ag95 sz95 ag96 sz96 ze96 ag97 sz97 ze97 ag98 sz98 ze98 ag99 sz99 ze99 ag100 sz100
attribute [go_sem] Tryd.underlying0 Tryd.underlying1 Tryd.underlying2 Tryd.underlying3 Tryd.underlying4 Tryd.underlying5 Tryd.underlying6 Tryd.underlying7 Tryd.underlying8 Tryd.underlying9 Tryd.underlying10 Tryd.underlying11 Tryd.underlying12 Tryd.underlying13 Tryd.underlying14 Tryd.underlying15 Tryd.underlying16 Tryd.underlying17 Tryd.underlying18 Tryd.underlying19 Tryd.underlying20 Tryd.underlying21 Tryd.underlying22 Tryd.underlying23 Tryd.underlying24 Tryd.underlying25 Tryd.underlying26 Tryd.underlying27 Tryd.underlying28 Tryd.underlying29 Tryd.underlying30 Tryd.underlying31 Tryd.underlying32 Tryd.underlying33 Tryd.underlying34 Tryd.underlying35 Tryd.underlying36 Tryd.underlying37 Tryd.underlying38 Tryd.underlying39
attribute [go_sem] Tryd.underlying40 Tryd.underlying41 Tryd.underlying42 Tryd.underlying43 Tryd.underlying44 Tryd.underlying45 Tryd.underlying46 Tryd.underlying47 Tryd.underlying48 Tryd.underlying49 Tryd.underlying50 Tryd.underlying51 Tryd.underlying52 Tryd.underlying53 Tryd.underlying54 Tryd.underlying55 Tryd.underlying56 Tryd.underlying57 Tryd.underlying58 Tryd.underlying59 Tryd.underlying60 Tryd.underlying61 Tryd.underlying62 Tryd.underlying63 Tryd.underlying64 Tryd.underlying65 Tryd.underlying66 Tryd.underlying67 Tryd.underlying68 Tryd.underlying69 Tryd.underlying70 Tryd.underlying71 Tryd.underlying72 Tryd.underlying73 Tryd.underlying74 Tryd.underlying75 Tryd.underlying76 Tryd.underlying77 Tryd.underlying78 Tryd.underlying79
attribute [go_sem] Tryd.underlying80 Tryd.underlying81 Tryd.underlying82 Tryd.underlying83 Tryd.underlying84 Tryd.underlying85 Tryd.underlying86 Tryd.underlying87 Tryd.underlying88 Tryd.underlying89 Tryd.underlying90 Tryd.underlying91 Tryd.underlying92 Tryd.underlying93 Tryd.underlying94 Tryd.underlying95 Tryd.underlying96 Tryd.underlying97 Tryd.underlying98 Tryd.underlying99 Tryd.underlying100
theorem al2 : allocS Tryd.prog 2 = some (.new 1 ([.d (.v (Go.Value.int Go.IntKind.i64 0))]) 2) := by kernel_rfl
theorem al3 : allocS Tryd.prog 3 = some (.new 1 ([.d (.v (Go.Value.int Go.IntKind.i64 0))]) 3) := by kernel_rfl
theorem al4 : allocS Tryd.prog 4 = some (.new 1 ([.d (.v (Go.Value.bool false))]) 4) := by kernel_rfl
theorem al5 : allocS Tryd.prog 5 = some (.new 1 ([.d (.v (Go.Value.int Go.IntKind.u8 0))]) 5) := by kernel_rfl
theorem al6 : allocS Tryd.prog 6 = some (.new 1 ([.d (.v (Go.Value.int Go.IntKind.u8 0))]) 6) := by kernel_rfl
theorem al7 : allocS Tryd.prog 7 = some (.new 4 ([.d (.v (Go.Value.int Go.IntKind.i64 0)), .d (.v (Go.Value.int Go.IntKind.i64 0)), .d (.v (Go.Value.bool false)), .d (.v (Go.Value.int Go.IntKind.u8 0))]) 7) := by kernel_rfl
theorem bz7 : buildS Tryd.prog 7 [] = some (.d (.agg 4 ([.v (Go.Value.int Go.IntKind.i64 0), .v (Go.Value.int Go.IntKind.i64 0), .v (Go.Value.bool false), .v (Go.Value.int Go.IntKind.u8 0)]))) := by kernel_rfl
theorem al8 : allocS Tryd.prog 8 = some (.new 4 ([.d (.v (Go.Value.int Go.IntKind.i64 0)), .d (.v (Go.Value.int Go.IntKind.i64 0)), .d (.v (Go.Value.bool false)), .d (.v (Go.Value.int Go.IntKind.u8 0))]) 8) := by kernel_rfl
theorem bz8 : buildS Tryd.prog 8 [] = some (.d (.agg 4 ([.v (Go.Value.int Go.IntKind.i64 0), .v (Go.Value.int Go.IntKind.i64 0), .v (Go.Value.bool false), .v (Go.Value.int Go.IntKind.u8 0)]))) := by kernel_rfl
theorem al9 : allocS Tryd.prog 9 = some (.new 1 ([.d (.v (Go.Value.string { data := #[] }))]) 9) := by kernel_rfl
theorem al10 : allocS Tryd.prog 10 = some (.new 1 ([.d (.v (Go.Value.string { data := #[] }))]) 10) := by kernel_rfl
theorem al11 : allocS Tryd.prog 11 = some (.new 1 ([.d (.v (Go.Value.string { data := #[] }))]) 11) := by kernel_rfl
theorem al12 : allocS Tryd.prog 12 = some (.new 1 ([.d (.v (Go.Value.int Go.IntKind.u64 0))]) 12) := by kernel_rfl
theorem al13 : allocS Tryd.prog 13 = some (.new 2 ([.d (.v (Go.Value.string { data := #[] })), .d (.v (Go.Value.int Go.IntKind.u64 0))]) 13) := by kernel_rfl
theorem bz13 : buildS Tryd.prog 13 [] = some (.d (.agg 2 ([.v (Go.Value.string { data := #[] }), .v (Go.Value.int Go.IntKind.u64 0)]))) := by kernel_rfl
theorem al14 : allocS Tryd.prog 14 = some (.new 2 ([.d (.v (Go.Value.string { data := #[] })), .d (.v (Go.Value.int Go.IntKind.u64 0))]) 14) := by kernel_rfl
theorem bz14 : buildS Tryd.prog 14 [] = some (.d (.agg 2 ([.v (Go.Value.string { data := #[] }), .v (Go.Value.int Go.IntKind.u64 0)]))) := by kernel_rfl
theorem al18 : allocS Tryd.prog 18 = some (.new 1 ([.d (.v (Go.Value.pointer none))]) 18) := by kernel_rfl
theorem bz18 : buildS Tryd.prog 18 [] = some (.d (.agg 1 ([.v (Go.Value.pointer none)]))) := by kernel_rfl
theorem al19 : allocS Tryd.prog 19 = some (.new 1 ([.d (.v (Go.Value.pointer none))]) 19) := by kernel_rfl
theorem bz19 : buildS Tryd.prog 19 [] = some (.d (.agg 1 ([.v (Go.Value.pointer none)]))) := by kernel_rfl
theorem al21 : allocS Tryd.prog 21 = some (.new 1 ([.d (.v (Go.Value.int Go.IntKind.i32 0))]) 21) := by kernel_rfl
theorem al22 : allocS Tryd.prog 22 = some (.new 1 ([.d (.list 0 [] true)]) 22) := by kernel_rfl
theorem al23 : allocS Tryd.prog 23 = some (.new 1 ([.d (.list 0 [] true)]) 23) := by kernel_rfl
theorem al24 : allocS Tryd.prog 24 = some (.new 4 ([.d (.v (Go.Value.int Go.IntKind.u8 0)), .d (.v (Go.Value.int Go.IntKind.u8 0)), .d (.v (Go.Value.int Go.IntKind.u8 0)), .d (.v (Go.Value.int Go.IntKind.u8 0))]) 24) := by kernel_rfl
theorem bz24 : buildS Tryd.prog 24 [] = some (.d (.agg 4 ([.v (Go.Value.int Go.IntKind.u8 0), .v (Go.Value.int Go.IntKind.u8 0), .v (Go.Value.int Go.IntKind.u8 0), .v (Go.Value.int Go.IntKind.u8 0)]))) := by kernel_rfl
theorem al27 : allocS Tryd.prog 27 = some (.new 32 ((List.replicate 32 (D.v (Go.Value.int Go.IntKind.u8 0))).map V.d) 27) := by kernel_rfl
theorem bz27 : buildS Tryd.prog 27 [] = some (.d (.agg 32 (List.replicate 32 (.v (Go.Value.int Go.IntKind.u8 0))))) := by kernel_rfl
theorem al28 : allocS Tryd.prog 28 = some (.new 32 ((List.replicate 32 (D.v (Go.Value.int Go.IntKind.u8 0))).map V.d) 28) := by kernel_rfl
theorem bz28 : buildS Tryd.prog 28 [] = some (.d (.agg 32 (List.replicate 32 (.v (Go.Value.int Go.IntKind.u8 0))))) := by kernel_rfl
theorem al32 : allocS Tryd.prog 32 = some (.new 1 ([.d (.list 0 [] true)]) 32) := by kernel_rfl
theorem al33 : allocS Tryd.prog 33 = some (.new 1 ([.d (.v (Go.Value.int Go.IntKind.i64 0))]) 33) := by kernel_rfl
theorem al36 : allocS Tryd.prog 36 = some (.new 2 ([.d (.list 0 [] true), .d (.v (Go.Value.int Go.IntKind.i64 0))]) 36) := by kernel_rfl
theorem bz36 : buildS Tryd.prog 36 [] = some (.d (.agg 2 ([.list 0 [] true, .v (Go.Value.int Go.IntKind.i64 0)]))) := by kernel_rfl
theorem al37 : allocS Tryd.prog 37 = some (.new 2 ([.d (.list 0 [] true), .d (.v (Go.Value.int Go.IntKind.i64 0))]) 37) := by kernel_rfl
theorem bz37 : buildS Tryd.prog 37 [] = some (.d (.agg 2 ([.list 0 [] true, .v (Go.Value.int Go.IntKind.i64 0)]))) := by kernel_rfl
theorem al45 : allocS Tryd.prog 45 = some (.new 1 ([.d (.v (Go.Value.int Go.IntKind.u16 0))]) 45) := by kernel_rfl
theorem al46 : allocS Tryd.prog 46 = some (.new 5 ([.d (.v (Go.Value.int Go.IntKind.u16 0)), .d (.v (Go.Value.int Go.IntKind.u16 0)), .d (.v (Go.Value.int Go.IntKind.u16 0)), .d (.v (Go.Value.int Go.IntKind.u16 0)), .d (.v (Go.Value.int Go.IntKind.u16 0))]) 46) := by kernel_rfl
theorem bz46 : buildS Tryd.prog 46 [] = some (.d (.agg 5 ([.v (Go.Value.int Go.IntKind.u16 0), .v (Go.Value.int Go.IntKind.u16 0), .v (Go.Value.int Go.IntKind.u16 0), .v (Go.Value.int Go.IntKind.u16 0), .v (Go.Value.int Go.IntKind.u16 0)]))) := by kernel_rfl
theorem al47 : allocS Tryd.prog 47 = some (.new 1 ([.d (.list 0 [] true)]) 47) := by kernel_rfl
theorem al55 : allocS Tryd.prog 55 = some (.new 1 ([.d (.v (Go.Value.int Go.IntKind.u64 0))]) 55) := by kernel_rfl
theorem al56 : allocS Tryd.prog 56 = some (.new 1 ([.d (.v (Go.Value.int Go.IntKind.u32 0))]) 56) := by kernel_rfl
theorem al57 : allocS Tryd.prog 57 = some (.new 8 ([.d (.v (Go.Value.int Go.IntKind.u32 0)), .d (.v (Go.Value.int Go.IntKind.u32 0)), .d (.v (Go.Value.int Go.IntKind.u32 0)), .d (.v (Go.Value.int Go.IntKind.u32 0)), .d (.v (Go.Value.int Go.IntKind.u32 0)), .d (.v (Go.Value.int Go.IntKind.u32 0)), .d (.v (Go.Value.int Go.IntKind.u32 0)), .d (.v (Go.Value.int Go.IntKind.u32 0))]) 57) := by kernel_rfl
theorem bz57 : buildS Tryd.prog 57 [] = some (.d (.agg 8 ([.v (Go.Value.int Go.IntKind.u32 0), .v (Go.Value.int Go.IntKind.u32 0), .v (Go.Value.int Go.IntKind.u32 0), .v (Go.Value.int Go.IntKind.u32 0), .v (Go.Value.int Go.IntKind.u32 0), .v (Go.Value.int Go.IntKind.u32 0), .v (Go.Value.int Go.IntKind.u32 0), .v (Go.Value.int Go.IntKind.u32 0)]))) := by kernel_rfl
theorem al68 : allocS Tryd.prog 68 = some (.new 1 ([.d (.list 0 [] true)]) 68) := by kernel_rfl
theorem al71 : allocS Tryd.prog 71 = some (.new 1 ([.d (.v (Go.Value.int Go.IntKind.u64 0))]) 71) := by kernel_rfl
theorem al73 : allocS Tryd.prog 73 = some (.new 64 ((List.replicate 64 (D.v (Go.Value.int Go.IntKind.u32 0))).map V.d) 73) := by kernel_rfl
theorem bz73 : buildS Tryd.prog 73 [] = some (.d (.agg 64 (List.replicate 64 (.v (Go.Value.int Go.IntKind.u32 0))))) := by kernel_rfl
theorem al76 : allocS Tryd.prog 76 = some (.new 1 ([.d (.list 0 [] true)]) 76) := by kernel_rfl
theorem al86 : allocS Tryd.prog 86 = some (.new 4 ([.d (.v (Go.Value.pointer none)), .d (.v (Go.Value.pointer none)), .d (.v (Go.Value.pointer none)), .d (.v (Go.Value.string { data := #[] }))]) 86) := by kernel_rfl
theorem bz86 : buildS Tryd.prog 86 [] = some (.d (.agg 4 ([.v (Go.Value.pointer none), .v (Go.Value.pointer none), .v (Go.Value.pointer none), .v (Go.Value.string { data := #[] })]))) := by kernel_rfl
theorem al87 : allocS Tryd.prog 87 = some (.new 4 ([.d (.v (Go.Value.pointer none)), .d (.v (Go.Value.pointer none)), .d (.v (Go.Value.pointer none)), .d (.v (Go.Value.string { data := #[] }))]) 87) := by kernel_rfl
theorem bz87 : buildS Tryd.prog 87 [] = some (.d (.agg 4 ([.v (Go.Value.pointer none), .v (Go.Value.pointer none), .v (Go.Value.pointer none), .v (Go.Value.string { data := #[] })]))) := by kernel_rfl
theorem al88 : allocS Tryd.prog 88 = some (.new 0 ([]) 88) := by kernel_rfl
theorem bz88 : buildS Tryd.prog 88 [] = some (.d (.agg 0 ([]))) := by kernel_rfl
theorem al89 : allocS Tryd.prog 89 = some (.new 0 ([]) 89) := by kernel_rfl
theorem bz89 : buildS Tryd.prog 89 [] = some (.d (.agg 0 ([]))) := by kernel_rfl
theorem al90 : allocS Tryd.prog 90 = some (.new 0 ([]) 90) := by kernel_rfl
theorem bz90 : buildS Tryd.prog 90 [] = some (.d (.agg 0 ([]))) := by kernel_rfl
theorem al92 : allocS Tryd.prog 92 = some (.new 1 ([.d (.v (Go.Value.int Go.IntKind.u8 0))]) 92) := by kernel_rfl
theorem al93 : allocS Tryd.prog 93 = some (.new 1 ([.d (.v (Go.Value.int Go.IntKind.u8 0))]) 93) := by kernel_rfl
theorem al96 : allocS Tryd.prog 96 = some (.new 1 ([.d (.v (Go.Value.int Go.IntKind.i32 0))]) 96) := by kernel_rfl
theorem al97 : allocS Tryd.prog 97 = some (.new 1 ([.d (.v (Go.Value.int Go.IntKind.i32 0))]) 97) := by kernel_rfl
theorem al98 : allocS Tryd.prog 98 = some (.new 11 ([.d (.v (Go.Value.int Go.IntKind.u64 0)), .d (.v (Go.Value.int Go.IntKind.u64 0)), .d (.v (Go.Value.int Go.IntKind.u32 0)), .d (.v (Go.Value.int Go.IntKind.u8 0)), .d (.v (Go.Value.int Go.IntKind.u8 0)), .d (.v (Go.Value.int Go.IntKind.u8 0)), .d (.v (Go.Value.int Go.IntKind.u8 0)), .d (.v (Go.Value.nilFunc)), .d (.v (Go.Value.pointer none)), .d (.v (Go.Value.int Go.IntKind.i32 0)), .d (.v (Go.Value.int Go.IntKind.i32 0))]) 98) := by kernel_rfl
theorem bz98 : buildS Tryd.prog 98 [] = some (.d (.agg 11 ([.v (Go.Value.int Go.IntKind.u64 0), .v (Go.Value.int Go.IntKind.u64 0), .v (Go.Value.int Go.IntKind.u32 0), .v (Go.Value.int Go.IntKind.u8 0), .v (Go.Value.int Go.IntKind.u8 0), .v (Go.Value.int Go.IntKind.u8 0), .v (Go.Value.int Go.IntKind.u8 0), .v (Go.Value.nilFunc), .v (Go.Value.pointer none), .v (Go.Value.int Go.IntKind.i32 0), .v (Go.Value.int Go.IntKind.i32 0)]))) := by kernel_rfl
theorem al99 : allocS Tryd.prog 99 = some (.new 11 ([.d (.v (Go.Value.int Go.IntKind.u64 0)), .d (.v (Go.Value.int Go.IntKind.u64 0)), .d (.v (Go.Value.int Go.IntKind.u32 0)), .d (.v (Go.Value.int Go.IntKind.u8 0)), .d (.v (Go.Value.int Go.IntKind.u8 0)), .d (.v (Go.Value.int Go.IntKind.u8 0)), .d (.v (Go.Value.int Go.IntKind.u8 0)), .d (.v (Go.Value.nilFunc)), .d (.v (Go.Value.pointer none)), .d (.v (Go.Value.int Go.IntKind.i32 0)), .d (.v (Go.Value.int Go.IntKind.i32 0))]) 99) := by kernel_rfl
theorem bz99 : buildS Tryd.prog 99 [] = some (.d (.agg 11 ([.v (Go.Value.int Go.IntKind.u64 0), .v (Go.Value.int Go.IntKind.u64 0), .v (Go.Value.int Go.IntKind.u32 0), .v (Go.Value.int Go.IntKind.u8 0), .v (Go.Value.int Go.IntKind.u8 0), .v (Go.Value.int Go.IntKind.u8 0), .v (Go.Value.int Go.IntKind.u8 0), .v (Go.Value.nilFunc), .v (Go.Value.pointer none), .v (Go.Value.int Go.IntKind.i32 0), .v (Go.Value.int Go.IntKind.i32 0)]))) := by kernel_rfl
end Go.Proofs.YtmindblfbijaaaaDoor
namespace Go.Proofs.YtmindblfbijaaaaDoor
open Go.RowKit
def elems (xs : List (List UInt8)) : List (List UInt8) := (xs.take 9).map (·.take 40)
theorem elBB : ElemT Tryd.prog 23 22 (.slice none 0 0) 1 24 := ⟨Tryd.underlying23, by kernel_rfl, rfl, by decide⟩
theorem take_min_map {α β : Type} (f : α → β) (l : List α) (m : Nat) : List.take (min l.length m) (List.map f l) = List.map f (List.take m l) := by
  rw [← List.map_take]
  congr 1
  rcases Nat.le_total l.length m with h | h
  · rw [Nat.min_eq_left h, List.take_of_length_le (Nat.le_refl _), List.take_of_length_le h]
  · rw [Nat.min_eq_right h]
set_option maxRecDepth 100000

theorem elements_D (xs : List (List UInt8)) (hl : xs.length ≤ 9223372036854775807) : CallsD Tryd.prog HG 11 [elemsL xs] (elemsL (elems xs)) := by
  simp only [elemsL]
  refine CallsD.of Tryd.func11 rfl Tryd.ntmps11 (by simp) ?_; intro F hF; simp only [List.zipIdx_cons, List.zipIdx_nil, List.map_cons, List.map_nil, Nat.zero_add, Nat.reduceAdd]
  refine Sm.seq ?_
  refine Sm.regionG hF rfl ?_
  refine SmG.v hF rfl rfl rfl (opV_assign rfl rfl) ?_
  refine SmG.nil ?_
  refine nextS_normal ?_
  refine Sm.seq ?_
  refine Sm.regionG hF rfl ?_
  refine SmG.v hF rfl rfl rfl (opV_buildSlice rfl rfl (by simp (disch := omega) only [go_sem, Nat.reduceEqDiff, iteP] <;> rfl)) ?_
  refine SmG.v hF rfl rfl rfl (opV_assign rfl rfl) ?_
  refine SmG.nil ?_
  refine nextS_normal ?_
  refine Sm.seq ?_
  refine Sm.seq ?_
  refine Sm.regionG hF rfl ?_
  refine SmG.v hF rfl rfl rfl (opV_assign rfl rfl) ?_
  refine SmG.nil ?_
  refine nextS_normal ?_
  refine Sm.block ?_
  refine Sm.to (St.to_own 1 (t := 3) (sz := 1) rfl) ?_
  refine Sm.loop (ι := {k : Nat // k ≤ xs.length ∧ k ≤ 9}) (fun k => ⟨[(0, .d (.list 1 (xs.map rowE) false)), (3, .sref 0 0 (((elems xs).take k.1).map rowE).length), (4, .d (.v (.int .i64 k.1)))], [(0, dB 1 (((elems xs).take k.1).map rowE))], 1⟩) (fun k => 9 - k.1) (⟨0, by omega, by omega⟩) ?_ ?_
  · exact St.le_of (by simp [leE, look, constD]) (by simp [leH, look, rep]) (by first | exact Nat.le_refl _ | (dsimp only; omega))
  rintro ⟨k, hk, hk9⟩
  simp only
  have fin : k = xs.length ∨ k = 9 → (D.list 1 (List.map rowE (List.take k (elems xs))) false).le (D.list 1 (List.map rowE (elems xs)) false) := by
    intro h
    rw [List.take_of_length_le (by simp [elems]; omega)]
    exact D.le.refl _

  by_cases hlt : k < xs.length
  · by_cases hlt9 : k < 9
    · have hk' : xs[k]? = some xs[k] := by simp

      refine Sm.seq ?_
      refine Sm.seq ?_
      refine Sm.regionG hF rfl ?_
      refine SmG.v hF rfl rfl rfl (opV_move rfl rfl) ?_
      refine SmG.v hF rfl rfl rfl (opV_move rfl rfl) ?_
      refine SmG.v hF rfl rfl rfl (opV_len rfl rfl (by simp (disch := omega) only [go_sem, Nat.reduceEqDiff, iteP, hk', rowE, bytesL, Nat.min_le_left, take_min_map] <;> rfl)) ?_
      refine SmG.v hF rfl rfl rfl (opV_bin rfl rfl rfl (by first | exact rd_lssT _ _ _ _ _ (by omega) | exact rd_lssF _ _ _ _ _ (by omega) | exact rb_lss _ _ _ _ _ _ _)) ?_
      refine SmG.v hF rfl rfl rfl (opV_move rfl rfl) ?_
      first | refine SmG.v hF rfl rfl rfl (opV_move rfl rfl) ?_ | refine SmG.pass hF rfl rfl rfl ?_
      first | refine SmG.v hF rfl rfl rfl (opV_bin rfl rfl rfl (by first | exact rd_lssT _ _ _ _ _ (by omega) | exact rd_lssF _ _ _ _ _ (by omega) | exact rb_lss _ _ _ _ _ _ _)) ?_ | refine SmG.pass hF rfl rfl rfl ?_
      first | refine SmG.v hF rfl rfl rfl (opV_pickT rfl rfl rfl) ?_ | refine SmG.v hF rfl rfl rfl (opV_pickF rfl rfl rfl) ?_
      refine SmG.nil ?_
      refine nextS_normal ?_
      refine Sm.condT hF rfl ?_
      refine Sm.skip ?_
      refine nextS_normal ?_
      refine Sm.seq ?_
      refine Sm.block ?_
      refine Sm.drawG hF (by kernel_rfl) rfl 13 (by kernel_rfl) (by kernel_rfl) ?_
      simp only [List.take_succ_cons, List.take_zero, List.take_nil]
      refine Head.v hF rfl rfl rfl (opV_move rfl rfl) ?_
      refine Head.v hF rfl rfl rfl (opV_move rfl rfl) ?_
      refine Head.v hF rfl rfl rfl (opV_move rfl rfl) ?_
      refine Head.v hF rfl rfl rfl (opV_indexAddr rfl rfl rfl (by simp (disch := omega) only [go_sem, Nat.reduceEqDiff, iteP, hk', rowE, bytesL, Nat.min_le_left, take_min_map] <;> rfl)) ?_
      refine Head.v hF rfl rfl rfl (opV_load rfl rfl (by simp (disch := omega) only [go_sem, Nat.reduceEqDiff, iteP, hk', rowE, bytesL, Nat.min_le_left, take_min_map] <;> rfl)) ?_
      refine Head.v hF rfl rfl rfl (opV_move rfl rfl) ?_
      refine Head.v hF rfl rfl rfl (opV_move rfl rfl) ?_
      refine Head.v hF rfl rfl rfl (opV_indexAddr rfl rfl rfl (by simp (disch := omega) only [go_sem, Nat.reduceEqDiff, iteP, hk', rowE, bytesL, Nat.min_le_left, take_min_map] <;> rfl)) ?_
      refine Head.v hF rfl rfl rfl (opV_load rfl rfl (by simp (disch := omega) only [go_sem, Nat.reduceEqDiff, iteP, hk', rowE, bytesL, Nat.min_le_left, take_min_map] <;> rfl)) ?_
      refine Head.v hF rfl rfl rfl (opV_len rfl rfl (by simp (disch := omega) only [go_sem, Nat.reduceEqDiff, iteP, hk', rowE, bytesL, Nat.min_le_left, take_min_map] <;> rfl)) ?_
      refine Head.v hF rfl rfl rfl (opV_min rfl rfl rfl (by first | exact rd_minL _ (by omega) | exact rd_minR _ (by omega) | exact rd_minN _ _ _)) ?_
      refine Head.v hF rfl rfl rfl (opV_slice rfl rfl rfl rfl rfl (by simp (disch := omega) only [go_sem, Nat.reduceEqDiff, iteP, hk', rowE, bytesL, Nat.min_le_left, take_min_map] <;> rfl)) ?_
      refine Head.v hF rfl rfl rfl (opV_buildSlice rfl rfl (by simp (disch := omega) only [go_sem, Nat.reduceEqDiff, iteP, hk', rowE, bytesL, Nat.min_le_left, take_min_map] <;> rfl)) ?_
      refine Head.last ⟨rfl, ?_⟩
      simp only [List.drop_succ_cons, List.drop_zero, List.drop_nil, List.nil_append, List.cons_append]
      -- stands at 29 of region 5: {"dst": 29, "op": "call", "a": [{"callee": ["builtin", "Callee.builtin Builtin.append"], "args": [["tmp", 16], ["tmp", 28]], "types": [23, 23]}], "ty"
      refine SmG.appendOwn hF elBB rfl rfl rfl rfl rfl rfl rfl (by first | rfl | (simp; done) | (simp; omega)) (Or.inl rfl) (by (repeat' first | exact freeH_nil _ | refine freeH_same ?_ | refine freeH_cons ?_ (free_dB _ _ _) | refine freeH_cons ?_ (free_dB _ _ [_]) | refine freeH_cons ?_ (free_row (by rfl)))) ?_ ?_ ?_; rotate_left; rotate_left; simp only [killV, Pk.v, V.free, rep, bne_self_eq_false, Nat.reduceAdd, Nat.reduceBNe, Nat.reduceBEq, Nat.reduceEqDiff, reduceIte, Bool.false_eq_true]
      · refine SmG.v hF rfl rfl rfl (opV_assign rfl rfl) ?_
        refine SmG.nil ?_
        refine blockS_normal ?_
        refine nextS_normal ?_
        refine Sm.regionG hF rfl ?_
        refine SmG.v hF rfl rfl rfl (opV_move rfl rfl) ?_
        refine SmG.v hF rfl rfl rfl (opV_bin rfl rfl rfl (by first | exact rd_add _ _ _ _ _ (wrapI64 _ (by omega)) | exact rb_add _ _ _ _ _ _ _)) ?_
        refine SmG.v hF rfl rfl rfl (opV_assign rfl rfl) ?_
        refine SmG.nil ?_
        refine nextS_normal ?_
        have hrow : ((elems xs).take (k + 1)).map rowE = ((elems xs).take k).map rowE ++ [[.list 1 (List.map rowB (List.take 40 xs[k])) false]] := by
          have h9 : (elems xs)[k]? = some (xs[k].take 40) := by simp [elems, hlt, hlt9]
          rw [List.take_add_one, h9]
          simp [rowE, bytesL]
        exact ⟨⟨k + 1, by omega, by omega⟩, by show 9 - (k + 1) < 9 - k; omega, by exact St.le_of (by simp [leE, look, constD, hrow]) (by simp [leH, look, rep, hrow]) (by first | exact Nat.le_refl _ | (dsimp only; omega))⟩
      · simp; omega
      · simp; omega

    · refine Sm.seq ?_
      refine Sm.seq ?_
      refine Sm.regionG hF rfl ?_
      refine SmG.v hF rfl rfl rfl (opV_move rfl rfl) ?_
      refine SmG.v hF rfl rfl rfl (opV_move rfl rfl) ?_
      refine SmG.v hF rfl rfl rfl (opV_len rfl rfl (by simp (disch := omega) only [go_sem, Nat.reduceEqDiff, iteP] <;> rfl)) ?_
      refine SmG.v hF rfl rfl rfl (opV_bin rfl rfl rfl (by first | exact rd_lssT _ _ _ _ _ (by omega) | exact rd_lssF _ _ _ _ _ (by omega) | exact rb_lss _ _ _ _ _ _ _)) ?_
      refine SmG.v hF rfl rfl rfl (opV_move rfl rfl) ?_
      first | refine SmG.v hF rfl rfl rfl (opV_move rfl rfl) ?_ | refine SmG.pass hF rfl rfl rfl ?_
      first | refine SmG.v hF rfl rfl rfl (opV_bin rfl rfl rfl (by first | exact rd_lssT _ _ _ _ _ (by omega) | exact rd_lssF _ _ _ _ _ (by omega) | exact rb_lss _ _ _ _ _ _ _)) ?_ | refine SmG.pass hF rfl rfl rfl ?_
      first | refine SmG.v hF rfl rfl rfl (opV_pickT rfl rfl rfl) ?_ | refine SmG.v hF rfl rfl rfl (opV_pickF rfl rfl rfl) ?_
      refine SmG.nil ?_
      refine nextS_normal ?_
      refine Sm.condF hF rfl ?_
      refine Sm.exit ?_; simp only [nextS, blockS, reduceIte, reduceCtorEq]
      refine Sm.to (St.to_freeze (l := 0) (((elems xs).take k).map rowE) rfl rfl) ?_
      simp only [Pk.v, frzE, frzV, dropH, reduceIte, Nat.reduceAdd, Nat.zero_add, List.length_map, List.length_append, Nat.le_refl, true_and, and_self, if_true, Nat.reduceEqDiff, true_and]

      refine Sm.seq ?_
      refine Sm.regionG hF rfl ?_
      refine SmG.v hF rfl rfl rfl (opV_move rfl rfl) ?_
      refine SmG.v hF rfl rfl rfl (opV_assign rfl rfl) ?_
      refine SmG.nil ?_
      refine nextS_normal ?_
      refine Sm.ret ?_
      refine ⟨_, rfl, ?_⟩; dsimp only
      exact fin (by omega)

  · refine Sm.seq ?_
    refine Sm.seq ?_
    refine Sm.regionG hF rfl ?_
    refine SmG.v hF rfl rfl rfl (opV_move rfl rfl) ?_
    refine SmG.v hF rfl rfl rfl (opV_move rfl rfl) ?_
    refine SmG.v hF rfl rfl rfl (opV_len rfl rfl (by simp (disch := omega) only [go_sem, Nat.reduceEqDiff, iteP] <;> rfl)) ?_
    refine SmG.v hF rfl rfl rfl (opV_bin rfl rfl rfl (by first | exact rd_lssT _ _ _ _ _ (by omega) | exact rd_lssF _ _ _ _ _ (by omega) | exact rb_lss _ _ _ _ _ _ _)) ?_
    refine SmG.v hF rfl rfl rfl (opV_move rfl rfl) ?_
    first | refine SmG.v hF rfl rfl rfl (opV_move rfl rfl) ?_ | refine SmG.pass hF rfl rfl rfl ?_
    first | refine SmG.v hF rfl rfl rfl (opV_bin rfl rfl rfl (by first | exact rd_lssT _ _ _ _ _ (by omega) | exact rd_lssF _ _ _ _ _ (by omega) | exact rb_lss _ _ _ _ _ _ _)) ?_ | refine SmG.pass hF rfl rfl rfl ?_
    first | refine SmG.v hF rfl rfl rfl (opV_pickT rfl rfl rfl) ?_ | refine SmG.v hF rfl rfl rfl (opV_pickF rfl rfl rfl) ?_
    refine SmG.nil ?_
    refine nextS_normal ?_
    refine Sm.condF hF rfl ?_
    refine Sm.exit ?_; simp only [nextS, blockS, reduceIte, reduceCtorEq]
    refine Sm.to (St.to_freeze (l := 0) (((elems xs).take k).map rowE) rfl rfl) ?_
    simp only [Pk.v, frzE, frzV, dropH, reduceIte, Nat.reduceAdd, Nat.zero_add, List.length_map, List.length_append, Nat.le_refl, true_and, and_self, if_true, Nat.reduceEqDiff, true_and]
    refine Sm.seq ?_
    refine Sm.regionG hF rfl ?_
    refine SmG.v hF rfl rfl rfl (opV_move rfl rfl) ?_
    refine SmG.v hF rfl rfl rfl (opV_assign rfl rfl) ?_
    refine SmG.nil ?_
    refine nextS_normal ?_
    refine Sm.ret ?_
    refine ⟨_, rfl, ?_⟩; dsimp only
    exact fin (by omega)
end Go.Proofs.YtmindblfbijaaaaDoor
namespace Go.Proofs.YtmindblfbijaaaaDoor
open Go.RowKit
theorem eqCells_bytes : ∀ (s t : List UInt8), s.length = t.length → eqCells (List.replicate s.length (.int .u8)) (rowS s) (rowS t) = some (decide (s = t)) := by
  intro s
  induction s with
  | nil => intro t h; cases t with
    | nil => rfl
    | cons => simp at h
  | cons a s ih =>
    intro t h
    cases t with
    | nil => simp at h
    | cons b t =>
      simp only [List.length_cons, Nat.add_right_cancel_iff] at h
      have hab : ((a.toNat : Int) == (b.toNat : Int)) = decide (a = b) := by
        rw [Bool.eq_iff_iff, beq_iff_eq, decide_eq_true_eq]
        constructor
        · intro e; exact UInt8.toNat_inj.1 (by omega)
        · intro e; rw [e]
      have ih' := ih t h
      simp only [rowS, List.map_cons, List.length_cons, List.replicate_succ, byteD, eqCells, sameV, if_true, Option.bind_some] at ih' ⊢
      rw [ih', Option.map_some, hab, ← Bool.decide_and]
      congr 1
      simp only [List.cons.injEq]
theorem eq_sum {s t : List UInt8} (h1 : s.length = 32) (h2 : t.length = 32) : eqAgg Tryd.prog 28 (.d (.agg 32 (rowS s))) (.d (.agg 32 (rowS t))) = some (decide (s = t)) := by
  have hg : Tryd.prog.eqGuardType Tryd.prog.depth 28 = false := by kernel_rfl
  have hk : kindsT Tryd.prog 28 = some (List.replicate 32 (.int .u8)) := by kernel_rfl
  have := eqCells_bytes s t (by rw [h1, h2])
  rw [h1] at this
  simp only [eqAgg, hg, if_true, hk, Option.bind_some, this]
theorem sumD_length {s : List UInt8} (h : s.length = 32) : (rowS s).length = 32 := by simp [rowS, h]
def Len32' (p : List (List UInt8)) : Prop := ∀ s ∈ p, s.length = 32
set_option maxRecDepth 100000

theorem same_D (p q : List (List UInt8)) (hp : Len32' p) (hq : Len32' q) (h1 : p.length ≤ 9223372036854775807) (h2 : q.length ≤ 9223372036854775807) : CallsD Tryd.prog HG 22 [sumsL p, sumsL q] (.v (.bool (decide (p = q)))) := by
  simp only [sumsL]
  by_cases hl : p.length = q.length

  · refine CallsD.of Tryd.func22 rfl Tryd.ntmps22 (by simp) ?_; intro F hF; simp only [List.zipIdx_cons, List.zipIdx_nil, List.map_cons, List.map_nil, Nat.zero_add, Nat.reduceAdd]
    refine Sm.seq ?_
    refine Sm.regionG hF rfl ?_
    refine SmG.v hF rfl rfl rfl (opV_assign rfl rfl) ?_
    refine SmG.nil ?_
    refine nextS_normal ?_
    refine Sm.seq ?_
    refine Sm.seq ?_
    refine Sm.regionG hF rfl ?_
    refine SmG.v hF rfl rfl rfl (opV_move rfl rfl) ?_
    refine SmG.v hF rfl rfl rfl (opV_len rfl rfl (by simp (disch := omega) only [go_sem, Nat.reduceEqDiff, iteP] <;> rfl)) ?_
    refine SmG.v hF rfl rfl rfl (opV_move rfl rfl) ?_
    refine SmG.v hF rfl rfl rfl (opV_len rfl rfl (by simp (disch := omega) only [go_sem, Nat.reduceEqDiff, iteP] <;> rfl)) ?_
    refine SmG.v hF rfl rfl rfl (opV_bin rfl rfl rfl (by first | exact rd_neqT _ _ _ _ _ (by omega) | exact rd_neqF _ _ _ _ _ (by omega) | exact rb_neq _ _ _ _ _ _ _)) ?_
    refine SmG.nil ?_
    refine nextS_normal ?_
    refine Sm.condF hF rfl ?_
    refine Sm.skip ?_
    refine nextS_normal ?_
    refine Sm.seq ?_
    refine Sm.seq ?_
    refine Sm.regionG hF rfl ?_
    refine SmG.v hF rfl rfl rfl (opV_assign rfl rfl) ?_
    refine SmG.nil ?_
    refine nextS_normal ?_
    refine Sm.block ?_
    refine Sm.loop (ι := {k : Nat // k ≤ p.length ∧ p.take k = q.take k}) (fun k => ⟨[(0, .d (.list 32 (p.map rowS) false)), (1, .d (.list 32 (q.map rowS) false)), (5, .d (.v (.int .i64 k.1)))], [], 0⟩) (fun k => p.length - k.1) (⟨0, by omega, rfl⟩) ?_ ?_
    · exact St.le_of (by simp [leE, look, constD]) (by simp [leH, look, rep]) (by first | exact Nat.le_refl _ | (dsimp only; omega))
    rintro ⟨k, hk, he⟩
    simp only

    by_cases hlt : k < p.length
    · have hpk : p[k]? = some p[k] := by simp
      have hqk : q[k]? = some (q[k]'(by omega)) := by simp
      have ha := eq_sum (hp _ (List.getElem_mem hlt)) (hq _ (List.getElem_mem (show k < q.length by omega)))
      by_cases hab : p[k] = q[k]'(by omega)
      · have hd := decide_eq_true hab

        refine Sm.seq ?_
        refine Sm.seq ?_
        refine Sm.regionG hF rfl ?_
        refine SmG.v hF rfl rfl rfl (opV_move rfl rfl) ?_
        refine SmG.v hF rfl rfl rfl (opV_move rfl rfl) ?_
        refine SmG.v hF rfl rfl rfl (opV_len rfl rfl (by simp (disch := omega) only [go_sem, Nat.reduceEqDiff, iteP, hpk, hqk, ha, hd] <;> rfl)) ?_
        refine SmG.v hF rfl rfl rfl (opV_bin rfl rfl rfl (by first | exact rd_lssT _ _ _ _ _ (by omega) | exact rd_lssF _ _ _ _ _ (by omega) | exact rb_lss _ _ _ _ _ _ _)) ?_
        refine SmG.nil ?_
        refine nextS_normal ?_
        refine Sm.condT hF rfl ?_
        refine Sm.skip ?_
        refine nextS_normal ?_
        refine Sm.seq ?_
        refine Sm.block ?_
        refine Sm.seq ?_
        refine Sm.drawG hF (by kernel_rfl) rfl 9 (by kernel_rfl) (by kernel_rfl) ?_
        simp only [List.take_succ_cons, List.take_zero, List.take_nil]
        refine Head.v hF rfl rfl rfl (opV_move rfl rfl) ?_
        refine Head.v hF rfl rfl rfl (opV_move rfl rfl) ?_
        refine Head.v hF rfl rfl rfl (opV_indexAddr rfl rfl rfl (by simp (disch := omega) only [go_sem, Nat.reduceEqDiff, iteP, hpk, hqk, ha, hd] <;> rfl)) ?_
        refine Head.v hF rfl rfl rfl (opV_load rfl rfl (by simp (disch := omega) only [go_sem, Nat.reduceEqDiff, iteP, hpk, hqk, ha, hd] <;> rfl)) ?_
        refine Head.v hF rfl rfl rfl (opV_move rfl rfl) ?_
        refine Head.v hF rfl rfl rfl (opV_move rfl rfl) ?_
        refine Head.v hF rfl rfl rfl (opV_indexAddr rfl rfl rfl (by simp (disch := omega) only [go_sem, Nat.reduceEqDiff, iteP, hpk, hqk, ha, hd] <;> rfl)) ?_
        refine Head.v hF rfl rfl rfl (opV_load rfl rfl (by simp (disch := omega) only [go_sem, Nat.reduceEqDiff, iteP, hpk, hqk, ha, hd] <;> rfl)) ?_
        refine Head.v hF rfl rfl rfl (opV_neA rfl rfl rfl (by simp (disch := omega) only [go_sem, Nat.reduceEqDiff, iteP, hpk, hqk, ha, hd] <;> rfl)) ?_
        refine Head.last ⟨rfl, ?_⟩
        simp only [List.drop_succ_cons, List.drop_zero, List.drop_nil, List.nil_append, List.cons_append]
        refine SmG.nil ?_
        refine nextS_normal ?_
        refine Sm.condF hF rfl ?_
        refine Sm.skip ?_
        refine blockS_normal ?_
        refine nextS_normal ?_
        refine Sm.regionG hF rfl ?_
        refine SmG.v hF rfl rfl rfl (opV_move rfl rfl) ?_
        refine SmG.v hF rfl rfl rfl (opV_bin rfl rfl rfl (by first | exact rd_add _ _ _ _ _ (wrapI64 _ (by omega)) | exact rb_add _ _ _ _ _ _ _)) ?_
        refine SmG.v hF rfl rfl rfl (opV_assign rfl rfl) ?_
        refine SmG.nil ?_
        refine nextS_normal ?_
        exact ⟨⟨k + 1, by omega, by rw [List.take_succ_eq_append_getElem hlt, List.take_succ_eq_append_getElem (show k < q.length by omega), he, hab]⟩, by show p.length - (k + 1) < p.length - k; omega, by exact St.le_of (by simp [leE, look, constD]) (by simp [leH, look, rep]) (by first | exact Nat.le_refl _ | (dsimp only; omega))⟩
      · have hd := decide_eq_false hab

        refine Sm.seq ?_
        refine Sm.seq ?_
        refine Sm.regionG hF rfl ?_
        refine SmG.v hF rfl rfl rfl (opV_move rfl rfl) ?_
        refine SmG.v hF rfl rfl rfl (opV_move rfl rfl) ?_
        refine SmG.v hF rfl rfl rfl (opV_len rfl rfl (by simp (disch := omega) only [go_sem, Nat.reduceEqDiff, iteP, hpk, hqk, ha, hd] <;> rfl)) ?_
        refine SmG.v hF rfl rfl rfl (opV_bin rfl rfl rfl (by first | exact rd_lssT _ _ _ _ _ (by omega) | exact rd_lssF _ _ _ _ _ (by omega) | exact rb_lss _ _ _ _ _ _ _)) ?_
        refine SmG.nil ?_
        refine nextS_normal ?_
        refine Sm.condT hF rfl ?_
        refine Sm.skip ?_
        refine nextS_normal ?_
        refine Sm.seq ?_
        refine Sm.block ?_
        refine Sm.seq ?_
        refine Sm.drawG hF (by kernel_rfl) rfl 9 (by kernel_rfl) (by kernel_rfl) ?_
        simp only [List.take_succ_cons, List.take_zero, List.take_nil]
        refine Head.v hF rfl rfl rfl (opV_move rfl rfl) ?_
        refine Head.v hF rfl rfl rfl (opV_move rfl rfl) ?_
        refine Head.v hF rfl rfl rfl (opV_indexAddr rfl rfl rfl (by simp (disch := omega) only [go_sem, Nat.reduceEqDiff, iteP, hpk, hqk, ha, hd] <;> rfl)) ?_
        refine Head.v hF rfl rfl rfl (opV_load rfl rfl (by simp (disch := omega) only [go_sem, Nat.reduceEqDiff, iteP, hpk, hqk, ha, hd] <;> rfl)) ?_
        refine Head.v hF rfl rfl rfl (opV_move rfl rfl) ?_
        refine Head.v hF rfl rfl rfl (opV_move rfl rfl) ?_
        refine Head.v hF rfl rfl rfl (opV_indexAddr rfl rfl rfl (by simp (disch := omega) only [go_sem, Nat.reduceEqDiff, iteP, hpk, hqk, ha, hd] <;> rfl)) ?_
        refine Head.v hF rfl rfl rfl (opV_load rfl rfl (by simp (disch := omega) only [go_sem, Nat.reduceEqDiff, iteP, hpk, hqk, ha, hd] <;> rfl)) ?_
        refine Head.v hF rfl rfl rfl (opV_neA rfl rfl rfl (by simp (disch := omega) only [go_sem, Nat.reduceEqDiff, iteP, hpk, hqk, ha, hd] <;> rfl)) ?_
        refine Head.last ⟨rfl, ?_⟩
        simp only [List.drop_succ_cons, List.drop_zero, List.drop_nil, List.nil_append, List.cons_append]
        refine SmG.nil ?_
        refine nextS_normal ?_
        refine Sm.condT hF rfl ?_
        refine Sm.seq ?_
        refine Sm.regionG hF rfl ?_
        refine SmG.v hF rfl rfl rfl (opV_assign rfl rfl) ?_
        refine SmG.nil ?_
        refine nextS_normal ?_
        refine Sm.ret ?_
        simp only [nextS, blockS]
        refine ⟨_, rfl, ?_⟩; dsimp only
        have : decide (p = q) = false := by
          simp only [decide_eq_false_iff_not]
          intro e; subst e; exact hab rfl
        rw [this]; exact D.le.refl _

    · refine Sm.seq ?_
      refine Sm.seq ?_
      refine Sm.regionG hF rfl ?_
      refine SmG.v hF rfl rfl rfl (opV_move rfl rfl) ?_
      refine SmG.v hF rfl rfl rfl (opV_move rfl rfl) ?_
      refine SmG.v hF rfl rfl rfl (opV_len rfl rfl (by simp (disch := omega) only [go_sem, Nat.reduceEqDiff, iteP] <;> rfl)) ?_
      refine SmG.v hF rfl rfl rfl (opV_bin rfl rfl rfl (by first | exact rd_lssT _ _ _ _ _ (by omega) | exact rd_lssF _ _ _ _ _ (by omega) | exact rb_lss _ _ _ _ _ _ _)) ?_
      refine SmG.nil ?_
      refine nextS_normal ?_
      refine Sm.condF hF rfl ?_
      refine Sm.exit ?_
      simp only [nextS, blockS, reduceIte, reduceCtorEq]
      refine Sm.seq ?_
      refine Sm.regionG hF rfl ?_
      refine SmG.v hF rfl rfl rfl (opV_assign rfl rfl) ?_
      refine SmG.nil ?_
      refine nextS_normal ?_
      refine Sm.ret ?_
      refine ⟨_, rfl, ?_⟩; dsimp only
      have : decide (p = q) = true := by
        simp only [decide_eq_true_eq]
        rw [List.take_of_length_le (by omega), List.take_of_length_le (by omega)] at he
        exact he
      rw [this]; exact D.le.refl _

  · refine CallsD.of Tryd.func22 rfl Tryd.ntmps22 (by simp) ?_; intro F hF; simp only [List.zipIdx_cons, List.zipIdx_nil, List.map_cons, List.map_nil, Nat.zero_add, Nat.reduceAdd]
    refine Sm.seq ?_
    refine Sm.regionG hF rfl ?_
    refine SmG.v hF rfl rfl rfl (opV_assign rfl rfl) ?_
    refine SmG.nil ?_
    refine nextS_normal ?_
    refine Sm.seq ?_
    refine Sm.seq ?_
    refine Sm.regionG hF rfl ?_
    refine SmG.v hF rfl rfl rfl (opV_move rfl rfl) ?_
    refine SmG.v hF rfl rfl rfl (opV_len rfl rfl (by simp (disch := omega) only [go_sem, Nat.reduceEqDiff, iteP] <;> rfl)) ?_
    refine SmG.v hF rfl rfl rfl (opV_move rfl rfl) ?_
    refine SmG.v hF rfl rfl rfl (opV_len rfl rfl (by simp (disch := omega) only [go_sem, Nat.reduceEqDiff, iteP] <;> rfl)) ?_
    refine SmG.v hF rfl rfl rfl (opV_bin rfl rfl rfl (by first | exact rd_neqT _ _ _ _ _ (by omega) | exact rd_neqF _ _ _ _ _ (by omega) | exact rb_neq _ _ _ _ _ _ _)) ?_
    refine SmG.nil ?_
    refine nextS_normal ?_
    refine Sm.condT hF rfl ?_
    refine Sm.seq ?_
    refine Sm.regionG hF rfl ?_
    refine SmG.v hF rfl rfl rfl (opV_assign rfl rfl) ?_
    refine SmG.nil ?_
    refine nextS_normal ?_
    refine Sm.ret ?_
    simp only [nextS, blockS]
    refine ⟨_, rfl, ?_⟩; dsimp only
    have : decide (p = q) = false := by simp; intro h; exact hl (by rw [h])
    rw [this]; exact D.le.refl _

theorem cut_of (n k : Nat) (h : 2 ^ k < n) (h' : n ≤ 2 * 2 ^ k) : 2 ^ k = Sha.cut n := (Sha.cut_eq (by have := Nat.pow_pos (n := k) (show 0 < 2 by omega); omega) h h').symm
theorem cut_D (n : Nat) (h1 : 2 ≤ n) (h2 : n ≤ 4611686018427387904) (G : Nat → Option D) : CallsD Tryd.prog G 27 [.v (.int .i64 n)] (.v (.int .i64 (Sha.cut n : Nat))) := by
  refine CallsD.of Tryd.func27 rfl Tryd.ntmps27 (by simp) ?_; intro F hF; simp only [List.zipIdx_cons, List.zipIdx_nil, List.map_cons, List.map_nil, Nat.zero_add, Nat.reduceAdd]
  refine Sm.seq ?_
  refine Sm.regionG hF rfl ?_
  refine SmG.v hF rfl rfl rfl (opV_assign rfl rfl) ?_
  refine SmG.nil ?_
  refine nextS_normal ?_
  refine Sm.seq ?_
  refine Sm.regionG hF rfl ?_
  refine SmG.v hF rfl rfl rfl (opV_assign rfl rfl) ?_
  refine SmG.nil ?_
  refine nextS_normal ?_
  refine Sm.seq ?_
  refine Sm.block ?_
  refine Sm.loop (ι := {k : Nat // 2 ^ k < n}) (fun k => ⟨[(0, .d (.v (.int .i64 n))), (3, .d (.v (.int .i64 (2 ^ k.1 : Nat))))], [], 0⟩) (fun k => n - 2 ^ k.1) (⟨0, by simp; omega⟩) ?_ ?_
  · exact St.le_of (by simp [leE, look, constD]) (by simp [leH, look, rep]) (by first | exact Nat.le_refl _ | (dsimp only; omega))
  rintro ⟨k, hk⟩
  have hpos : 0 < 2 ^ k := Nat.pow_pos (by omega)
  have hs : 2 ^ (k + 1) = 2 * 2 ^ k := by rw [Nat.pow_succ]; omega
  have hc := cut_of n k hk
  generalize hm : 2 ^ k = m at hs hc hpos ⊢
  simp only [hm] at hk ⊢
  clear hm

  by_cases hlt : 2 * m < n
  · refine Sm.seq ?_
    refine Sm.seq ?_
    refine Sm.regionG hF rfl ?_
    refine SmG.v hF rfl rfl rfl (opV_move rfl rfl) ?_
    refine SmG.v hF rfl rfl rfl (opV_bin rfl rfl rfl (by first | exact rd_mul _ _ _ _ _ (wrapI64 _ (by omega)) | exact rb_mul _ _ _ _ _ _ _)) ?_
    refine SmG.v hF rfl rfl rfl (opV_move rfl rfl) ?_
    refine SmG.v hF rfl rfl rfl (opV_bin rfl rfl rfl (by first | exact rd_lssT _ _ _ _ _ (by omega) | exact rd_lssF _ _ _ _ _ (by omega) | exact rb_lss _ _ _ _ _ _ _)) ?_
    refine SmG.nil ?_
    refine nextS_normal ?_
    refine Sm.condT hF rfl ?_
    refine Sm.skip ?_
    refine nextS_normal ?_
    refine Sm.block ?_
    refine Sm.regionG hF rfl ?_
    refine SmG.v hF rfl rfl rfl (opV_move rfl rfl) ?_
    refine SmG.v hF rfl rfl rfl (opV_bin rfl rfl rfl (by first | exact rd_mul _ _ _ _ _ (wrapI64 _ (by omega)) | exact rb_mul _ _ _ _ _ _ _)) ?_
    refine SmG.v hF rfl rfl rfl (opV_assign rfl rfl) ?_
    refine SmG.nil ?_
    refine blockS_normal ?_
    refine nextS_normal ?_
    refine ⟨⟨k + 1, by omega⟩, by show n - 2 ^ (k + 1) < n - m; omega, ?_⟩
    exact St.le_of (by simp [leE, look, constD, hs]) (by simp [leH, look, rep, hs]) (by first | exact Nat.le_refl _ | (dsimp only; omega))

  · refine Sm.seq ?_
    refine Sm.seq ?_
    refine Sm.regionG hF rfl ?_
    refine SmG.v hF rfl rfl rfl (opV_move rfl rfl) ?_
    refine SmG.v hF rfl rfl rfl (opV_bin rfl rfl rfl (by first | exact rd_mul _ _ _ _ _ (wrapI64 _ (by omega)) | exact rb_mul _ _ _ _ _ _ _)) ?_
    refine SmG.v hF rfl rfl rfl (opV_move rfl rfl) ?_
    refine SmG.v hF rfl rfl rfl (opV_bin rfl rfl rfl (by first | exact rd_lssT _ _ _ _ _ (by omega) | exact rd_lssF _ _ _ _ _ (by omega) | exact rb_lss _ _ _ _ _ _ _)) ?_
    refine SmG.nil ?_
    refine nextS_normal ?_
    refine Sm.condF hF rfl ?_
    refine Sm.exit ?_
    simp only [nextS, blockS, reduceIte, reduceCtorEq]
    refine Sm.seq ?_
    refine Sm.regionG hF rfl ?_
    refine SmG.v hF rfl rfl rfl (opV_move rfl rfl) ?_
    refine SmG.v hF rfl rfl rfl (opV_assign rfl rfl) ?_
    refine SmG.nil ?_
    refine nextS_normal ?_
    refine Sm.ret ?_
    refine ⟨_, rfl, ?_⟩; dsimp only
    rw [← hc (by omega)]
    exact D.le.refl _
end Go.Proofs.YtmindblfbijaaaaDoor
namespace Go.Proofs.YtmindblfbijaaaaDoor
namespace Sha
theorem cut_even {n : Nat} (h : 3 ≤ n) : cut n % 2 = 0 ∧ 2 ≤ cut n := by
  have hl : 1 ≤ Nat.log2 (n - 1) := by
    have := (Nat.le_log2 (n := n - 1) (k := 1) (by omega)).2 (by omega)
    exact this
  unfold cut
  obtain ⟨k, hk⟩ : ∃ k, Nat.log2 (n - 1) = k + 1 := ⟨Nat.log2 (n - 1) - 1, by omega⟩
  rw [hk, Nat.pow_succ]
  have := Nat.pow_pos (n := k) (show 0 < 2 by omega)
  omega
theorem cut_two : cut 2 = 1 := by decide
theorem neighbours : ∀ (k : Nat) (l : List (List UInt8)) (i : Nat), l.length = k → i % 2 = 0 → i + 1 < l.length →
    ∃ P, path l i = P ++ [leaf (l.getD (i + 1) [])] ∧ path l (i + 1) = P ++ [leaf (l.getD i [])] := by
  intro k
  induction k using Nat.strongRecOn with
  | _ k ih =>
    intro l i hk he hi
    have h2 : 2 ≤ l.length := by omega
    rcases Nat.lt_or_ge l.length 3 with h3 | h3
    · match l, h2, h3 with
      | [a, b], _, _ =>
        have : i = 0 := by simp at hi; omega
        subst this
        refine ⟨[], ?_, ?_⟩
        · rw [path_low (by simp) (by simp [cut_two])]
          simp [cut_two, root_one, path_one]
        · rw [path_high (by simp) (by simp [cut_two])]
          simp [cut_two, root_one, path_one]
    · obtain ⟨ce, c2⟩ := cut_even h3
      have c1 := cut_lt h2
      rcases Nat.lt_or_ge i (cut l.length) with hlt | hge
      · have hlt' : i + 1 < cut l.length := by omega
        obtain ⟨P, h1, h2'⟩ := ih (l.take (cut l.length)).length (by rw [List.length_take]; omega) (l.take (cut l.length)) i rfl he (by rw [List.length_take]; omega)
        refine ⟨root (l.drop (cut l.length)) :: P, ?_, ?_⟩
        · rw [path_low h2 hlt, h1]
          simp [List.getD_eq_getElem?_getD, List.getElem?_take_of_lt hlt']
        · rw [path_low h2 hlt', h2']
          simp [List.getD_eq_getElem?_getD, List.getElem?_take_of_lt hlt]
      · obtain ⟨P, h1, h2'⟩ := ih (l.drop (cut l.length)).length (by rw [List.length_drop]; omega) (l.drop (cut l.length)) (i - cut l.length) rfl (by omega) (by rw [List.length_drop]; omega)
        refine ⟨root (l.take (cut l.length)) :: P, ?_, ?_⟩
        · rw [path_high h2 hge, h1]
          simp [List.getD_eq_getElem?_getD, List.getElem?_drop, show cut l.length + (i - cut l.length + 1) = i + 1 by omega]
        · rw [path_high h2 (by omega), show i + 1 - cut l.length = i - cut l.length + 1 by omega, h2']
          simp [List.getD_eq_getElem?_getD, List.getElem?_drop, show cut l.length + (i - cut l.length) = i by omega]
theorem neighbours_proof (l : List (List UInt8)) (i : Nat) (he : i % 2 = 0) (hi : i + 1 < l.length) :
    ∃ P, proof l i = leaf (l.getD (i + 1) []) :: P ∧ proof l (i + 1) = leaf (l.getD i []) :: P := by
  obtain ⟨P, h1, h2⟩ := neighbours _ l i rfl he hi
  exact ⟨P.reverse, by unfold proof; rw [h1]; simp, by unfold proof; rw [h2]; simp⟩
end Sha
end Go.Proofs.YtmindblfbijaaaaDoor
namespace Go.Proofs.YtmindblfbijaaaaDoor
open Go.RowKit
set_option maxRecDepth 100000
theorem fit_elems (xs : List (List UInt8)) : Fit (elems xs) ∧ (elems xs).length ≤ 9 := by
  have hl : (elems xs).length ≤ 9 := by simp [elems]; omega
  refine ⟨⟨by omega, fun l h => ?_⟩, hl⟩
  simp only [elems, List.mem_map] at h
  obtain ⟨y, _, rfl⟩ := h
  rw [List.length_take]; omega
theorem path_le : ∀ (k : Nat) (l : List (List UInt8)) (i : Nat), l.length = k → (Sha.path l i).length ≤ l.length := by
  intro k
  induction k using Nat.strongRecOn with
  | _ k ih =>
    intro l i hk
    rcases Nat.lt_or_ge l.length 2 with h | h
    · rw [Sha.path_one _ h]; simp
    · have c1 := Sha.cut_lt h
      have c2 := Sha.cut_pos l.length
      rcases Nat.lt_or_ge i (Sha.cut l.length) with hi | hi
      · rw [Sha.path_low h hi]
        have := ih (l.take (Sha.cut l.length)).length (by rw [List.length_take]; omega) (l.take (Sha.cut l.length)) i rfl
        rw [List.length_take] at this
        simp only [List.length_cons]; omega
      · rw [Sha.path_high h hi]
        have := ih (l.drop (Sha.cut l.length)).length (by rw [List.length_drop]; omega) (l.drop (Sha.cut l.length)) (i - Sha.cut l.length) rfl
        rw [List.length_drop] at this
        simp only [List.length_cons]; omega
theorem proof_le (l : List (List UInt8)) (i : Nat) : (Sha.proof l i).length ≤ l.length := by
  unfold Sha.proof; rw [List.length_reverse]; exact path_le _ l i rfl
theorem proof_len32' (ls : List (List UInt8)) (i : Nat) : Len32' (Sha.proof ls i) := fun s hs => proof_len32 ls i s hs

theorem neigh_D (xs : List (List UInt8)) (hx : xs.length ≤ 9223372036854775807) : CallsD Tryd.prog HG 8 [elemsL xs] (.v (.bool true)) := by
  refine CallsD.of Tryd.func8 rfl Tryd.ntmps8 (by simp) ?_; intro F hF; simp only [List.zipIdx_cons, List.zipIdx_nil, List.map_cons, List.map_nil, Nat.zero_add, Nat.reduceAdd]
  refine Sm.seq ?_
  refine Sm.regionG hF rfl ?_
  refine SmG.v hF rfl rfl rfl (opV_assign rfl rfl) ?_
  refine SmG.nil ?_
  refine nextS_normal ?_
  refine Sm.seq ?_
  refine Sm.regionG hF rfl ?_
  refine SmG.call hF rfl rfl (by kernel_rfl) rfl rfl rfl (sanity_D) ?_
  refine SmG.v hF rfl rfl rfl (opV_assign rfl rfl) ?_
  refine SmG.nil ?_
  refine nextS_normal ?_
  refine Sm.seq ?_
  refine Sm.regionG hF rfl ?_
  refine SmG.v hF rfl rfl rfl (opV_move rfl rfl) ?_
  refine SmG.call hF rfl rfl (by kernel_rfl) rfl rfl rfl (elements_D xs hx) ?_
  refine SmG.v hF rfl rfl rfl (opV_assign rfl rfl) ?_
  refine SmG.nil ?_
  refine nextS_normal ?_
  refine Sm.seq ?_
  refine Sm.seq ?_
  refine Sm.regionG hF rfl ?_
  refine SmG.v hF rfl rfl rfl (opV_assign rfl rfl) ?_
  refine SmG.nil ?_
  refine nextS_normal ?_
  refine Sm.block ?_
  obtain ⟨hF', hl⟩ := fit_elems xs
  generalize elems xs = l at hF' hl ⊢
  refine Sm.loop (ι := {k : Nat // k ≤ l.length + 1 ∧ k % 2 = 0}) (fun k => ⟨[(3, .d (.v (.bool true))), (4, .d (elemsL l)), (5, .d (.v (.int .i64 k.1)))], [], 0⟩) (fun k => l.length + 1 - k.1) (⟨0, by omega, rfl⟩) ?_ ?_
  · exact St.le_of (by simp [leE, look, constD]) (by simp [leH, look, rep]) (by first | exact Nat.le_refl _ | (dsimp only; omega))
  rintro ⟨k, hk, he⟩
  simp only
  by_cases hlt : k + 1 < l.length
  · obtain ⟨P, e1, e2⟩ := Sha.neighbours_proof l k he hlt
    have hk1 : l[k]? = some (l[k]'(by omega)) := by simp
    have hk2 : l[k + 1]? = some l[k + 1] := by simp
    have g1 : l.getD k [] = l[k]'(by omega) := by simp [List.getD, hk1]
    have g2 : l.getD (k + 1) [] = l[k + 1] := by simp [List.getD, hk2]
    rw [g2] at e1
    rw [g1] at e2
    have hP : Len32' P := fun s hs => proof_len32' l k s (by rw [e1]; simp [hs])
    have c1 := proof_D l k hF' (by omega)
    have c2 := proof_D l (k + 1) hF' hlt
    rw [e1] at c1
    rw [e2] at c2
    have hPl : P.length ≤ 9223372036854775806 := by
      have := proof_le l k
      rw [e1] at this; simp at this; omega
    have m1 := leaf_D l[k + 1] (hF'.2 _ (List.getElem_mem hlt))
    have m2 := leaf_D (l[k]'(by omega)) (hF'.2 _ (List.getElem_mem (by omega)))
    have m3 : CallsD Tryd.prog HG 22 [sumsL P, sumsL P] (.v (.bool true)) := by
      have := same_D P P hP hP (by omega) (by omega)
      simpa using this
    have q1 : eqAgg Tryd.prog 28 (.d (.agg 32 (rowS (Sha.leaf l[k + 1])))) (.d (.agg 32 (rowS (Sha.leaf l[k + 1])))) = some true := by
      rw [eq_sum (Sha.leaf_len _) (Sha.leaf_len _)]; simp
    have q2 : eqAgg Tryd.prog 28 (.d (.agg 32 (rowS (Sha.leaf (l[k]'(by omega)))))) (.d (.agg 32 (rowS (Sha.leaf (l[k]'(by omega)))))) = some true := by
      rw [eq_sum (Sha.leaf_len _) (Sha.leaf_len _)]; simp
    have hcast : ((k : Int) + 1).toNat = k + 1 := by omega

    refine Sm.seq ?_
    refine Sm.seq ?_
    refine Sm.regionG hF rfl ?_
    refine SmG.v hF rfl rfl rfl (opV_move rfl rfl) ?_
    refine SmG.v hF rfl rfl rfl (opV_bin rfl rfl rfl (by first | exact rd_add _ _ _ _ _ (wrapI64 _ (by omega)) | exact rb_add _ _ _ _ _ _ _)) ?_
    refine SmG.v hF rfl rfl rfl (opV_move rfl rfl) ?_
    refine SmG.v hF rfl rfl rfl (opV_len rfl rfl (by simp (disch := omega) only [go_sem, Nat.reduceEqDiff, iteP, hk1, hk2, sumsL, elemsL, bytesL, rowE, sumD, q1, q2, hcast, Nat.le_add_left, sumD_length, Sha.leaf_len] <;> rfl)) ?_
    refine SmG.v hF rfl rfl rfl (opV_bin rfl rfl rfl (by first | exact rd_lssT _ _ _ _ _ (by omega) | exact rd_lssF _ _ _ _ _ (by omega) | exact rb_lss _ _ _ _ _ _ _)) ?_
    refine SmG.nil ?_
    refine nextS_normal ?_
    refine Sm.condT hF rfl ?_
    refine Sm.skip ?_
    refine nextS_normal ?_
    refine Sm.seq ?_
    refine Sm.block ?_
    refine Sm.seq ?_
    refine Sm.regionG hF rfl ?_
    refine SmG.v hF rfl rfl rfl (opV_move rfl rfl) ?_
    refine SmG.v hF rfl rfl rfl (opV_move rfl rfl) ?_
    refine SmG.call hF rfl rfl (by kernel_rfl) rfl rfl rfl (c1) ?_
    refine SmG.v hF rfl rfl rfl (opV_move rfl rfl) ?_
    refine SmG.v hF rfl rfl rfl (by first | exact opV_extract rfl rfl rfl | exact opV_extract0 rfl rfl) ?_
    refine SmG.v hF rfl rfl rfl (by first | exact opV_extract rfl rfl rfl | exact opV_extractS rfl rfl rfl) ?_
    refine SmG.v hF rfl rfl rfl (opV_assign rfl rfl) ?_
    refine SmG.v hF rfl rfl rfl (opV_assign rfl rfl) ?_
    refine SmG.nil ?_
    refine nextS_normal ?_
    refine Sm.seq ?_
    refine Sm.regionG hF rfl ?_
    refine SmG.v hF rfl rfl rfl (opV_move rfl rfl) ?_
    refine SmG.v hF rfl rfl rfl (opV_move rfl rfl) ?_
    refine SmG.v hF rfl rfl rfl (opV_bin rfl rfl rfl (by first | exact rd_add _ _ _ _ _ (wrapI64 _ (by omega)) | exact rb_add _ _ _ _ _ _ _)) ?_
    refine SmG.call hF rfl rfl (by kernel_rfl) rfl rfl rfl (c2) ?_
    refine SmG.v hF rfl rfl rfl (opV_move rfl rfl) ?_
    refine SmG.v hF rfl rfl rfl (by first | exact opV_extract rfl rfl rfl | exact opV_extract0 rfl rfl) ?_
    refine SmG.v hF rfl rfl rfl (by first | exact opV_extract rfl rfl rfl | exact opV_extractS rfl rfl rfl) ?_
    refine SmG.v hF rfl rfl rfl (opV_assign rfl rfl) ?_
    refine SmG.v hF rfl rfl rfl (opV_assign rfl rfl) ?_
    refine SmG.nil ?_
    refine nextS_normal ?_
    refine Sm.seq ?_
    refine Sm.drawG hF (by kernel_rfl) rfl 49 (by kernel_rfl) (by kernel_rfl) ?_
    simp only [List.take_succ_cons, List.take_zero, List.take_nil]
    refine Head.v hF rfl rfl rfl (opV_move rfl rfl) ?_
    refine Head.v hF rfl rfl rfl (opV_bin rfl rfl rfl (by first | exact rd_neqT _ _ _ _ _ (by omega) | exact rd_neqF _ _ _ _ _ (by omega) | exact rb_neq _ _ _ _ _ _ _)) ?_
    refine Head.v hF rfl rfl rfl (opV_move rfl rfl) ?_
    first | refine Head.v hF rfl rfl rfl (opV_move rfl rfl) ?_ | refine Head.p hF rfl rfl rfl ?_
    first | refine Head.v hF rfl rfl rfl (opV_bin rfl rfl rfl (by first | exact rd_neqT _ _ _ _ _ (by omega) | exact rd_neqF _ _ _ _ _ (by omega) | exact rb_neq _ _ _ _ _ _ _)) ?_ | refine Head.p hF rfl rfl rfl ?_
    first | refine Head.v hF rfl rfl rfl (opV_pickT rfl rfl rfl) ?_ | refine Head.v hF rfl rfl rfl (opV_pickF rfl rfl rfl) ?_
    refine Head.v hF rfl rfl rfl (opV_move rfl rfl) ?_
    first | refine Head.v hF rfl rfl rfl (opV_move rfl rfl) ?_ | refine Head.p hF rfl rfl rfl ?_
    first | refine Head.v hF rfl rfl rfl (opV_len rfl rfl (by simp (disch := omega) only [go_sem, Nat.reduceEqDiff, iteP, hk1, hk2, sumsL, elemsL, bytesL, rowE, sumD, q1, q2, hcast, Nat.le_add_left, sumD_length, Sha.leaf_len] <;> rfl)) ?_ | refine Head.p hF rfl rfl rfl ?_
    first | refine Head.v hF rfl rfl rfl (opV_bin rfl rfl rfl (by first | exact rd_lssT _ _ _ _ _ (by omega) | exact rd_lssF _ _ _ _ _ (by omega) | exact rb_lss _ _ _ _ _ _ _)) ?_ | refine Head.p hF rfl rfl rfl ?_
    first | refine Head.v hF rfl rfl rfl (opV_pickT rfl rfl rfl) ?_ | refine Head.v hF rfl rfl rfl (opV_pickF rfl rfl rfl) ?_
    refine Head.v hF rfl rfl rfl (opV_move rfl rfl) ?_
    first | refine Head.v hF rfl rfl rfl (opV_move rfl rfl) ?_ | refine Head.p hF rfl rfl rfl ?_
    first | refine Head.v hF rfl rfl rfl (opV_len rfl rfl (by simp (disch := omega) only [go_sem, Nat.reduceEqDiff, iteP, hk1, hk2, sumsL, elemsL, bytesL, rowE, sumD, q1, q2, hcast, Nat.le_add_left, sumD_length, Sha.leaf_len] <;> rfl)) ?_ | refine Head.p hF rfl rfl rfl ?_
    first | refine Head.v hF rfl rfl rfl (opV_move rfl rfl) ?_ | refine Head.p hF rfl rfl rfl ?_
    first | refine Head.v hF rfl rfl rfl (opV_len rfl rfl (by simp (disch := omega) only [go_sem, Nat.reduceEqDiff, iteP, hk1, hk2, sumsL, elemsL, bytesL, rowE, sumD, q1, q2, hcast, Nat.le_add_left, sumD_length, Sha.leaf_len] <;> rfl)) ?_ | refine Head.p hF rfl rfl rfl ?_
    first | refine Head.v hF rfl rfl rfl (opV_bin rfl rfl rfl (by first | exact rd_neqT _ _ _ _ _ (by omega) | exact rd_neqF _ _ _ _ _ (by omega) | exact rb_neq _ _ _ _ _ _ _)) ?_ | refine Head.p hF rfl rfl rfl ?_
    first | refine Head.v hF rfl rfl rfl (opV_pickT rfl rfl rfl) ?_ | refine Head.v hF rfl rfl rfl (opV_pickF rfl rfl rfl) ?_
    refine Head.v hF rfl rfl rfl (opV_move rfl rfl) ?_
    first | refine Head.v hF rfl rfl rfl (opV_move rfl rfl) ?_ | refine Head.p hF rfl rfl rfl ?_
    first | refine Head.v hF rfl rfl rfl (opV_indexAddr rfl rfl rfl (by simp (disch := omega) only [go_sem, Nat.reduceEqDiff, iteP, hk1, hk2, sumsL, elemsL, bytesL, rowE, sumD, q1, q2, hcast, Nat.le_add_left, sumD_length, Sha.leaf_len] <;> rfl)) ?_ | refine Head.p hF rfl rfl rfl ?_
    first | refine Head.v hF rfl rfl rfl (opV_load rfl rfl (by simp (disch := omega) only [go_sem, Nat.reduceEqDiff, iteP, hk1, hk2, sumsL, elemsL, bytesL, rowE, sumD, q1, q2, hcast, Nat.le_add_left, sumD_length, Sha.leaf_len] <;> rfl)) ?_ | refine Head.p hF rfl rfl rfl ?_
    first | refine Head.v hF rfl rfl rfl (opV_move rfl rfl) ?_ | refine Head.p hF rfl rfl rfl ?_
    first | refine Head.v hF rfl rfl rfl (opV_move rfl rfl) ?_ | refine Head.p hF rfl rfl rfl ?_
    first | refine Head.v hF rfl rfl rfl (opV_bin rfl rfl rfl (by first | exact rd_add _ _ _ _ _ (wrapI64 _ (by omega)) | exact rb_add _ _ _ _ _ _ _)) ?_ | refine Head.p hF rfl rfl rfl ?_
    first | refine Head.v hF rfl rfl rfl (opV_indexAddr rfl rfl rfl (by simp (disch := omega) only [go_sem, Nat.reduceEqDiff, iteP, hk1, hk2, sumsL, elemsL, bytesL, rowE, sumD, q1, q2, hcast, Nat.le_add_left, sumD_length, Sha.leaf_len] <;> rfl)) ?_ | refine Head.p hF rfl rfl rfl ?_
    first | refine Head.v hF rfl rfl rfl (opV_load rfl rfl (by simp (disch := omega) only [go_sem, Nat.reduceEqDiff, iteP, hk1, hk2, sumsL, elemsL, bytesL, rowE, sumD, q1, q2, hcast, Nat.le_add_left, sumD_length, Sha.leaf_len] <;> rfl)) ?_ | refine Head.p hF rfl rfl rfl ?_
    first | refine Head.c hF rfl rfl (by kernel_rfl) rfl rfl rfl (m1) ?_ | refine Head.p hF rfl rfl rfl ?_
    first | refine Head.v hF rfl rfl rfl (opV_neA rfl rfl rfl (by simp (disch := omega) only [go_sem, Nat.reduceEqDiff, iteP, hk1, hk2, sumsL, elemsL, bytesL, rowE, sumD, q1, q2, hcast, Nat.le_add_left, sumD_length, Sha.leaf_len] <;> rfl)) ?_ | refine Head.p hF rfl rfl rfl ?_
    first | refine Head.v hF rfl rfl rfl (opV_pickT rfl rfl rfl) ?_ | refine Head.v hF rfl rfl rfl (opV_pickF rfl rfl rfl) ?_
    refine Head.v hF rfl rfl rfl (opV_move rfl rfl) ?_
    first | refine Head.v hF rfl rfl rfl (opV_move rfl rfl) ?_ | refine Head.p hF rfl rfl rfl ?_
    first | refine Head.v hF rfl rfl rfl (opV_indexAddr rfl rfl rfl (by simp (disch := omega) only [go_sem, Nat.reduceEqDiff, iteP, hk1, hk2, sumsL, elemsL, bytesL, rowE, sumD, q1, q2, hcast, Nat.le_add_left, sumD_length, Sha.leaf_len] <;> rfl)) ?_ | refine Head.p hF rfl rfl rfl ?_
    first | refine Head.v hF rfl rfl rfl (opV_load rfl rfl (by simp (disch := omega) only [go_sem, Nat.reduceEqDiff, iteP, hk1, hk2, sumsL, elemsL, bytesL, rowE, sumD, q1, q2, hcast, Nat.le_add_left, sumD_length, Sha.leaf_len] <;> rfl)) ?_ | refine Head.p hF rfl rfl rfl ?_
    first | refine Head.v hF rfl rfl rfl (opV_move rfl rfl) ?_ | refine Head.p hF rfl rfl rfl ?_
    first | refine Head.v hF rfl rfl rfl (opV_move rfl rfl) ?_ | refine Head.p hF rfl rfl rfl ?_
    first | refine Head.v hF rfl rfl rfl (opV_indexAddr rfl rfl rfl (by simp (disch := omega) only [go_sem, Nat.reduceEqDiff, iteP, hk1, hk2, sumsL, elemsL, bytesL, rowE, sumD, q1, q2, hcast, Nat.le_add_left, sumD_length, Sha.leaf_len] <;> rfl)) ?_ | refine Head.p hF rfl rfl rfl ?_
    first | refine Head.v hF rfl rfl rfl (opV_load rfl rfl (by simp (disch := omega) only [go_sem, Nat.reduceEqDiff, iteP, hk1, hk2, sumsL, elemsL, bytesL, rowE, sumD, q1, q2, hcast, Nat.le_add_left, sumD_length, Sha.leaf_len] <;> rfl)) ?_ | refine Head.p hF rfl rfl rfl ?_
    first | refine Head.c hF rfl rfl (by kernel_rfl) rfl rfl rfl (m2) ?_ | refine Head.p hF rfl rfl rfl ?_
    first | refine Head.v hF rfl rfl rfl (opV_neA rfl rfl rfl (by simp (disch := omega) only [go_sem, Nat.reduceEqDiff, iteP, hk1, hk2, sumsL, elemsL, bytesL, rowE, sumD, q1, q2, hcast, Nat.le_add_left, sumD_length, Sha.leaf_len] <;> rfl)) ?_ | refine Head.p hF rfl rfl rfl ?_
    first | refine Head.v hF rfl rfl rfl (opV_pickT rfl rfl rfl) ?_ | refine Head.v hF rfl rfl rfl (opV_pickF rfl rfl rfl) ?_
    refine Head.v hF rfl rfl rfl (opV_move rfl rfl) ?_
    first | refine Head.v hF rfl rfl rfl (opV_move rfl rfl) ?_ | refine Head.p hF rfl rfl rfl ?_
    first | refine Head.v hF rfl rfl rfl (opV_slice rfl rfl rfl rfl rfl (by simp (disch := omega) only [go_sem, Nat.reduceEqDiff, iteP, hk1, hk2, sumsL, elemsL, bytesL, rowE, sumD, q1, q2, hcast, Nat.le_add_left, sumD_length, Sha.leaf_len] <;> rfl)) ?_ | refine Head.p hF rfl rfl rfl ?_
    first | refine Head.v hF rfl rfl rfl (opV_move rfl rfl) ?_ | refine Head.p hF rfl rfl rfl ?_
    first | refine Head.v hF rfl rfl rfl (opV_slice rfl rfl rfl rfl rfl (by simp (disch := omega) only [go_sem, Nat.reduceEqDiff, iteP, hk1, hk2, sumsL, elemsL, bytesL, rowE, sumD, q1, q2, hcast, Nat.le_add_left, sumD_length, Sha.leaf_len] <;> rfl)) ?_ | refine Head.p hF rfl rfl rfl ?_
    first | refine Head.c hF rfl rfl (by kernel_rfl) rfl rfl rfl (m3) ?_ | refine Head.p hF rfl rfl rfl ?_
    first | refine Head.v hF rfl rfl rfl (opV_un rfl rfl (by first | exact rd_notT _ | exact rd_notF _ | exact rd_not _)) ?_ | refine Head.p hF rfl rfl rfl ?_
    first | refine Head.v hF rfl rfl rfl (opV_pickT rfl rfl rfl) ?_ | refine Head.v hF rfl rfl rfl (opV_pickF rfl rfl rfl) ?_
    refine Head.last ⟨rfl, ?_⟩
    simp only [List.drop_succ_cons, List.drop_zero, List.drop_nil, List.nil_append, List.cons_append]
    refine SmG.nil ?_
    refine nextS_normal ?_
    refine Sm.condF hF rfl ?_
    refine Sm.skip ?_
    refine blockS_normal ?_
    refine nextS_normal ?_
    refine Sm.regionG hF rfl ?_
    refine SmG.v hF rfl rfl rfl (opV_move rfl rfl) ?_
    refine SmG.v hF rfl rfl rfl (opV_bin rfl rfl rfl (by first | exact rd_add _ _ _ _ _ (wrapI64 _ (by omega)) | exact rb_add _ _ _ _ _ _ _)) ?_
    refine SmG.v hF rfl rfl rfl (opV_assign rfl rfl) ?_
    refine SmG.nil ?_
    refine nextS_normal ?_
    exact ⟨⟨k + 2, by omega, by omega⟩, by show l.length + 1 - (k + 2) < l.length + 1 - k; omega, by exact St.le_of (by simp [leE, look, constD]) (by simp [leH, look, rep]) (by first | exact Nat.le_refl _ | (dsimp only; omega))⟩

  · refine Sm.seq ?_
    refine Sm.seq ?_
    refine Sm.regionG hF rfl ?_
    refine SmG.v hF rfl rfl rfl (opV_move rfl rfl) ?_
    refine SmG.v hF rfl rfl rfl (opV_bin rfl rfl rfl (by first | exact rd_add _ _ _ _ _ (wrapI64 _ (by omega)) | exact rb_add _ _ _ _ _ _ _)) ?_
    refine SmG.v hF rfl rfl rfl (opV_move rfl rfl) ?_
    refine SmG.v hF rfl rfl rfl (opV_len rfl rfl (by simp (disch := omega) only [go_sem, Nat.reduceEqDiff, iteP, elemsL] <;> rfl)) ?_
    refine SmG.v hF rfl rfl rfl (opV_bin rfl rfl rfl (by first | exact rd_lssT _ _ _ _ _ (by omega) | exact rd_lssF _ _ _ _ _ (by omega) | exact rb_lss _ _ _ _ _ _ _)) ?_
    refine SmG.nil ?_
    refine nextS_normal ?_
    refine Sm.condF hF rfl ?_
    refine Sm.exit ?_
    simp only [nextS, blockS, reduceIte, reduceCtorEq]
    refine Sm.seq ?_
    refine Sm.regionG hF rfl ?_
    refine SmG.v hF rfl rfl rfl (opV_move rfl rfl) ?_
    refine SmG.v hF rfl rfl rfl (opV_assign rfl rfl) ?_
    refine SmG.nil ?_
    refine nextS_normal ?_
    refine Sm.ret ?_
    refine ⟨_, rfl, ?_⟩; dsimp only
    exact D.le.refl _
end Go.Proofs.YtmindblfbijaaaaDoor
namespace Go.Proofs.YtmindblfbijaaaaDoor
open Go.RowKit
set_option maxRecDepth 100000
section
variable (P : Program) (t : TypeId) (x y : Operand)
theorem rw_add (a b : UInt32) : reck P (do eqGuard .add t x y (.int .u32 a.toNat) (.int .u32 b.toNat); binOp .add t (.int .u32 a.toNat) (.int .u32 b.toNat)) = some (.int .u32 ((a + b).toNat : Int)) := by rw [rb_add, wadd]
theorem rw_xor (a b : UInt32) : reck P (do eqGuard .xor t x y (.int .u32 a.toNat) (.int .u32 b.toNat); binOp .xor t (.int .u32 a.toNat) (.int .u32 b.toNat)) = some (.int .u32 ((a ^^^ b).toNat : Int)) := by
  rw [rb_xor]; exact congrArg (fun n => some (Value.int .u32 n)) (xor32 a b)
theorem rw_and (a b : UInt32) : reck P (do eqGuard .and t x y (.int .u32 a.toNat) (.int .u32 b.toNat); binOp .and t (.int .u32 a.toNat) (.int .u32 b.toNat)) = some (.int .u32 ((a &&& b).toNat : Int)) := by
  rw [rb_and]; exact congrArg (fun n => some (Value.int .u32 n)) (and32 a b)
theorem rw_not (a : UInt32) : reck P (Op.unary .xor (.int .u32 a.toNat)) = some (.int .u32 ((~~~a).toNat : Int)) := by
  rw [← not32 a]; rfl
theorem rw_shr (n : Nat) {b : Int} (k2 : IntKind) (hb : b = (n : Int)) (hn : n ≤ 32) (a : UInt32) : reck P (do eqGuard .shr t x y (.int .u32 a.toNat) (.int k2 b); binOp .shr t (.int .u32 a.toNat) (.int k2 b)) = some (.int .u32 ((Sha.shr a n).toNat : Int)) := by
  rw [rb_shr P t x y .u32 a.toNat b k2 (by omega), ← shr32]
  subst hb
  have : min ((n : Int).toNat) IntKind.u32.bits = n := by show min _ 32 = n; omega
  rw [this, Int.fdiv_eq_ediv_of_nonneg _ (Int.le_of_lt (Int.pow_pos (by omega)))]
  norm_cast
theorem rw_shl8 (p : Nat) (k2 : IntKind) (hp : p < 16777216) : reck P (do eqGuard .shl t x y (.int .u32 p) (.int k2 8); binOp .shl t (.int .u32 p) (.int k2 8)) = some (.int .u32 ((p * 256 : Nat) : Int)) := by
  have e : (2 : Int) ^ (min (8 : Int).toNat IntKind.u32.bits) = 256 := by decide
  rw [rb_shl P t x y .u32 p 8 k2 (by omega), e, wrapU32 _ (by omega)]
  simp
theorem rw_or8 (p c : Nat) (hp : p < 16777216) (hc : c < 256) : reck P (do eqGuard .or t x y (.int .u32 ((p * 256 : Nat) : Int)) (.int .u32 c); binOp .or t (.int .u32 ((p * 256 : Nat) : Int)) (.int .u32 c)) = some (.int .u32 ((p * 256 + c : Nat) : Int)) := by
  rw [rb_or]
  have := shift8 p c hp hc
  rw [show (p : Int) * 256 % 4294967296 = ((p * 256 : Nat) : Int) by omega] at this
  exact congrArg (fun n => some (Value.int .u32 n)) this
end
theorem turn_D {n : Int} (m : Nat) (x : UInt32) (hn : n = m) (h1 : m ≤ 31) (G : Nat → Option D) : CallsD Tryd.prog G 47 [.v (.int .i64 n), .v (.int .u32 x.toNat)] (.v (.int .u32 (Sha.rotr x m).toNat)) := by
  intro C w vs hG hk ha
  obtain ⟨v, u, rfl, hv, hu⟩ := outs2 ha
  rw [Rep.v_eq hv, Rep.v_eq hu]
  subst hn
  refine (turn_any m x w h1).mono ?_
  rintro e w' ⟨rfl, k, rfl⟩
  exact ⟨_, C, rfl, .of_below hk (below_drewN (Below.refl _ _) k), .v _⟩

theorem first_D (G : Nat → Option D) : CallsD Tryd.prog G 33 [] (.agg 8 (Sha.begin8.map u32D)) := by
  refine CallsD.of Tryd.func33 rfl Tryd.ntmps33 (by simp) ?_; intro F hF; simp only [List.zipIdx_cons, List.zipIdx_nil, List.map_cons, List.map_nil, Nat.zero_add, Nat.reduceAdd]
  refine Sm.seq ?_
  refine Sm.regionG hF rfl ?_
  refine SmG.new hF rfl rfl rfl (opS_alloc rfl al57) ?_
  refine SmG.nil ?_
  refine nextS_normal ?_
  refine Sm.seq ?_
  refine Sm.regionG hF rfl ?_
  refine SmG.v hF rfl rfl rfl (opV_buildA rfl Tryd.underlying57 rfl (show _ = some (.d (.agg 8 (Sha.begin8.map u32D))) from by kernel_rfl)) ?_
  refine SmG.store hF rfl rfl rfl rfl rfl (by simp (disch := omega) only [go_sem, Nat.reduceEqDiff, iteP] <;> rfl) ?_
  refine SmG.nil ?_
  refine nextS_normal ?_
  refine Sm.ret ?_
  refine ⟨.agg 8 (Sha.begin8.map u32D), ?_, D.le.refl _⟩
  kernel_rfl

theorem keys_D (G : Nat → Option D) : CallsD Tryd.prog G 46 [] (.agg 64 (Sha.keys64.map u32D)) := by
  refine CallsD.of Tryd.func46 rfl Tryd.ntmps46 (by simp) ?_; intro F hF; simp only [List.zipIdx_cons, List.zipIdx_nil, List.map_cons, List.map_nil, Nat.zero_add, Nat.reduceAdd]
  refine Sm.seq ?_
  refine Sm.regionG hF rfl ?_
  refine SmG.new hF rfl rfl rfl (opS_alloc rfl al73) ?_
  refine SmG.nil ?_
  refine nextS_normal ?_
  refine Sm.seq ?_
  refine Sm.regionG hF rfl ?_
  refine SmG.v hF rfl rfl rfl (opV_buildA rfl Tryd.underlying73 rfl (show _ = some (.d (.agg 64 (Sha.keys64.map u32D))) from by kernel_rfl)) ?_
  refine SmG.store hF rfl rfl rfl rfl rfl (by simp (disch := omega) only [go_sem, Nat.reduceEqDiff, iteP] <;> rfl) ?_
  refine SmG.nil ?_
  refine nextS_normal ?_
  refine Sm.ret ?_
  refine ⟨.agg 64 (Sha.keys64.map u32D), ?_, D.le.refl _⟩
  kernel_rfl
/-- Words in a block of the frame's own. -/
abbrev dW (n : Nat) (l : List UInt32) : Blk := dB n [l.map u32D]
theorem set_word (l : List UInt32) (i z : Nat) (h : z < 4294967296) : (List.map V.d (List.map u32D l)).set i (.d (.v (.int .u32 (z : Int)))) = List.map V.d (List.map u32D (l.set i (UInt32.ofNat z))) := by
  rw [List.map_set, List.map_set]
  have : (UInt32.ofNat z).toNat = z := Nat.mod_eq_of_lt h
  rw [u32D, this]
theorem set_word' (l : List UInt32) (i : Nat) (z : UInt32) : (List.map V.d (List.map u32D l)).set i (.d (.v (.int .u32 (z.toNat : Int)))) = List.map V.d (List.map u32D (l.set i z)) := by
  rw [List.map_set, List.map_set]; rfl
theorem get_word (l : List UInt32) (i : Nat) (h : i < l.length) : l[i]? = some (l.getD i 0) := by simp [List.getD, h]

theorem spread_D (b : List UInt8) (hb : b.length = 64) (G : Nat → Option D) : CallsD Tryd.prog G 45 [bytesL b] (.agg 64 ((Sha.spread b).map u32D)) := by
  refine CallsD.of Tryd.func45 rfl Tryd.ntmps45 (by simp) ?_; intro F hF; simp only [List.zipIdx_cons, List.zipIdx_nil, List.map_cons, List.map_nil, Nat.zero_add, Nat.reduceAdd]
  refine Sm.seq ?_
  refine Sm.regionG hF rfl ?_
  refine SmG.new hF rfl rfl rfl (opS_alloc rfl al73) ?_
  refine SmG.nil ?_
  refine nextS_normal ?_
  refine Sm.seq ?_
  refine Sm.regionG hF rfl ?_
  refine SmG.v hF rfl rfl rfl (opV_buildA rfl Tryd.underlying73 rfl bz73) ?_
  refine SmG.new hF rfl rfl rfl (opS_alloc rfl al73) ?_
  refine SmG.store hF rfl rfl rfl rfl rfl (by simp (disch := omega) only [go_sem, Nat.reduceEqDiff, iteP] <;> rfl) ?_
  refine SmG.nil ?_
  refine nextS_normal ?_
  refine Sm.seq ?_
  refine Sm.seq ?_
  refine Sm.regionG hF rfl ?_
  refine SmG.v hF rfl rfl rfl (opV_assign rfl rfl) ?_
  refine SmG.nil ?_
  refine nextS_normal ?_
  refine Sm.block ?_
  refine Sm.loop (ι := {t : Nat // t ≤ 16}) (fun t => ⟨[(0, .d (bytesL b)), (2, .ref 0 0 0), (3, .ref 1 0 0), (4, .d (.v (.int .i64 t.1)))], [(1, dW 64 (Sha.fill b (4 * t.1))), (0, dW 64 (List.replicate 64 0))], 2⟩) (fun t => 16 - t.1) (⟨0, by omega⟩) ?_ ?_
  · refine St.le_of (by simp [leE, look, constD]) ⟨?_, rfl, trivial⟩ (Nat.le_refl _)
    show _ = some (dW 64 (Sha.fill b 0))
    rw [Sha.fill_zero]; rfl
  rintro ⟨t, ht⟩
  simp only

  by_cases hlt : t < 16
  · refine Sm.seq ?_
    refine Sm.seq ?_
    refine Sm.regionG hF rfl ?_
    refine SmG.v hF rfl rfl rfl (opV_move rfl rfl) ?_
    refine SmG.v hF rfl rfl rfl (opV_bin rfl rfl rfl (by first | exact rd_lssT _ _ _ _ _ (by omega) | exact rd_lssF _ _ _ _ _ (by omega) | exact rb_lss _ _ _ _ _ _ _)) ?_
    refine SmG.nil ?_
    refine nextS_normal ?_
    refine Sm.condT hF rfl ?_
    refine Sm.skip ?_
    refine nextS_normal ?_
    refine Sm.seq ?_
    refine Sm.block ?_
    refine Sm.seq ?_
    refine Sm.regionG hF rfl ?_
    refine SmG.v hF rfl rfl rfl (opV_assign rfl rfl) ?_
    refine SmG.nil ?_
    refine nextS_normal ?_
    refine Sm.block ?_
    refine Sm.loop (ι := {k : Nat // k ≤ 4}) (fun k => ⟨[(0, .d (bytesL b)), (2, .ref 0 0 0), (3, .ref 1 0 0), (4, .d (.v (.int .i64 t))), (5, .d (.v (.int .i64 k.1)))], [(1, dW 64 (Sha.fill b (4 * t + k.1))), (0, dW 64 (List.replicate 64 0))], 2⟩) (fun k => 4 - k.1) (⟨0, by omega⟩) ?_ ?_
    · exact St.le_of (by simp [leE, look, constD]) (by simp [leH, look, rep]) (by first | exact Nat.le_refl _ | (dsimp only; omega))
    rintro ⟨k, hk⟩
    simp only

    by_cases hlk : k < 4
    · have hpl : Sha.part b t k < 16777216 := Nat.lt_of_lt_of_le (Sha.part_lt b t k) (by
        have : (256 : Nat) ^ k ≤ 256 ^ 3 := Nat.pow_le_pow_right (by omega) (by omega)
        simpa using this)
      have hget : (Sha.fill b (4 * t + k))[t]? = some (UInt32.ofNat (Sha.part b t k)) := by
        rw [get_word _ _ (by rw [Sha.fill_length]; omega), Sha.fill_get b _ t (by omega)]
        congr 3; omega
      have hw : (UInt32.ofNat (Sha.part b t k)).toNat = Sha.part b t k := Nat.mod_eq_of_lt (by omega)
      have hb1 : b[4 * t + k]? = some (b.getD (4 * t + k) 0) := by simp [List.getD, show 4 * t + k < b.length by omega]
      have hlb : (b.getD (4 * t + k) 0).toNat < 256 := (b.getD (4 * t + k) 0).toNat_lt
      have hset := Sha.fill_succ b (4 * t + k) (by omega)
      rw [show (4 * t + k) / 4 = t by omega, show (4 * t + k) % 4 = k by omega] at hset
      have hst := set_word (Sha.fill b (4 * t + k)) t (Sha.part b t k * 256 + (b.getD (4 * t + k) 0).toNat) (by omega)
      rw [← hset] at hst
      generalize b.getD (4 * t + k) 0 = c at hb1 hlb hst
      generalize Sha.part b t k = p at hpl hget hw hst
      have hcast : (4 * (t : Int) + (k : Int)).toNat = 4 * t + k := by omega
      have e1 : 4 * t + (k + 1) = 4 * t + k + 1 := by omega

      refine Sm.seq ?_
      refine Sm.seq ?_
      refine Sm.regionG hF rfl ?_
      refine SmG.v hF rfl rfl rfl (opV_move rfl rfl) ?_
      refine SmG.v hF rfl rfl rfl (opV_bin rfl rfl rfl (by first | exact rd_lssT _ _ _ _ _ (by omega) | exact rd_lssF _ _ _ _ _ (by omega) | exact rb_lss _ _ _ _ _ _ _)) ?_
      refine SmG.nil ?_
      refine nextS_normal ?_
      refine Sm.condT hF rfl ?_
      refine Sm.skip ?_
      refine nextS_normal ?_
      refine Sm.seq ?_
      refine Sm.block ?_
      refine Sm.drawG hF (by kernel_rfl) rfl 15 (by kernel_rfl) (by kernel_rfl) ?_
      simp only [List.take_succ_cons, List.take_zero, List.take_nil]
      refine Head.v hF rfl rfl rfl (opV_move rfl rfl) ?_
      refine Head.v hF rfl rfl rfl (opV_move rfl rfl) ?_
      refine Head.v hF rfl rfl rfl (opV_indexAddr rfl rfl rfl (by simp (disch := omega) only [go_sem, Nat.reduceEqDiff, iteP, bytesL, rowB, byteD, hget, hw, hb1, hcast, u32D] <;> rfl)) ?_
      refine Head.v hF rfl rfl rfl (opV_load rfl rfl (by simp (disch := omega) only [go_sem, Nat.reduceEqDiff, iteP, bytesL, rowB, byteD, hget, hw, hb1, hcast, u32D] <;> rfl)) ?_
      refine Head.v hF rfl rfl rfl (opV_bin rfl rfl rfl (rw_shl8 _ _ _ _ p _ hpl)) ?_
      refine Head.v hF rfl rfl rfl (opV_move rfl rfl) ?_
      refine Head.v hF rfl rfl rfl (opV_move rfl rfl) ?_
      refine Head.v hF rfl rfl rfl (opV_bin rfl rfl rfl (by first | exact rd_mul _ _ _ _ _ (wrapI64 _ (by omega)) | exact rb_mul _ _ _ _ _ _ _)) ?_
      refine Head.v hF rfl rfl rfl (opV_move rfl rfl) ?_
      refine Head.v hF rfl rfl rfl (opV_bin rfl rfl rfl (by first | exact rd_add _ _ _ _ _ (wrapI64 _ (by omega)) | exact rb_add _ _ _ _ _ _ _)) ?_
      refine Head.v hF rfl rfl rfl (opV_indexAddr rfl rfl rfl (by simp (disch := omega) only [go_sem, Nat.reduceEqDiff, iteP, bytesL, rowB, byteD, hget, hw, hb1, hcast, u32D] <;> rfl)) ?_
      refine Head.v hF rfl rfl rfl (opV_load rfl rfl (by simp (disch := omega) only [go_sem, Nat.reduceEqDiff, iteP, bytesL, rowB, byteD, hget, hw, hb1, hcast, u32D] <;> rfl)) ?_
      refine Head.v hF rfl rfl rfl (opV_conv rfl rfl (by first | exact convS_int rfl rfl (wrapU32 _ (by omega)) | (simp (disch := omega) only [go_sem, bytesL, rowB, byteD, hget, hw, hb1, hcast, u32D] <;> rfl))) ?_
      refine Head.v hF rfl rfl rfl (opV_bin rfl rfl rfl (rw_or8 _ _ _ _ p c.toNat hpl hlb)) ?_
      refine Head.v hF rfl rfl rfl (opV_indexAddr rfl rfl rfl (by simp (disch := omega) only [go_sem, Nat.reduceEqDiff, iteP, bytesL, rowB, byteD, hget, hw, hb1, hcast, u32D] <;> rfl)) ?_
      refine Head.last ⟨rfl, ?_⟩
      simp only [List.drop_succ_cons, List.drop_zero, List.drop_nil, List.nil_append, List.cons_append]
      refine SmG.store hF rfl rfl rfl rfl rfl (by simp (disch := omega) only [go_sem, Nat.reduceEqDiff, iteP, bytesL, rowB, byteD, hget, hw, hb1, hcast, u32D] <;> rfl) ?_
      refine SmG.nil ?_
      refine blockS_normal ?_
      refine nextS_normal ?_
      refine Sm.regionG hF rfl ?_
      refine SmG.v hF rfl rfl rfl (opV_move rfl rfl) ?_
      refine SmG.v hF rfl rfl rfl (opV_bin rfl rfl rfl (by first | exact rd_add _ _ _ _ _ (wrapI64 _ (by omega)) | exact rb_add _ _ _ _ _ _ _)) ?_
      refine SmG.v hF rfl rfl rfl (opV_assign rfl rfl) ?_
      refine SmG.nil ?_
      refine nextS_normal ?_
      exact ⟨⟨k + 1, by omega⟩, by show 4 - (k + 1) < 4 - k; omega, by exact St.le_of (by first | (simp [leE, look, constD] <;> omega) | (simp [leE, look, constD, hst, e1] <;> omega)) (by simp only [leH, look, rep, reduceIte, Nat.reduceEqDiff, List.set_cons_zero, List.set_cons_succ, hst, e1, and_self, and_true, and_false, false_and, if_true, if_false] <;> (repeat' first | rfl | constructor)) (by first | exact Nat.le_refl _ | (dsimp only; omega))⟩

    · obtain rfl : k = 4 := by omega
      refine Sm.seq ?_
      refine Sm.seq ?_
      refine Sm.regionG hF rfl ?_
      refine SmG.v hF rfl rfl rfl (opV_move rfl rfl) ?_
      refine SmG.v hF rfl rfl rfl (opV_bin rfl rfl rfl (by first | exact rd_lssT _ _ _ _ _ (by omega) | exact rd_lssF _ _ _ _ _ (by omega) | exact rb_lss _ _ _ _ _ _ _)) ?_
      refine SmG.nil ?_
      refine nextS_normal ?_
      refine Sm.condF hF rfl ?_
      refine Sm.exit ?_
      simp only [nextS, blockS, reduceIte, reduceCtorEq]
      refine Sm.regionG hF rfl ?_
      refine SmG.v hF rfl rfl rfl (opV_move rfl rfl) ?_
      refine SmG.v hF rfl rfl rfl (opV_bin rfl rfl rfl (by first | exact rd_add _ _ _ _ _ (wrapI64 _ (by omega)) | exact rb_add _ _ _ _ _ _ _)) ?_
      refine SmG.v hF rfl rfl rfl (opV_assign rfl rfl) ?_
      refine SmG.nil ?_
      refine nextS_normal ?_
      exact ⟨⟨t + 1, by omega⟩, by show 16 - (t + 1) < 16 - t; omega, by exact St.le_of (by first | (simp [leE, look, constD] <;> omega) | (simp [leE, look, constD, show 4 * t + 4 = 4 * (t + 1) by omega] <;> omega)) (by simp only [leH, look, rep, reduceIte, Nat.reduceEqDiff, List.set_cons_zero, List.set_cons_succ, show 4 * t + 4 = 4 * (t + 1) by omega, and_self, and_true, and_false, false_and, if_true, if_false] <;> (repeat' first | rfl | constructor)) (by first | exact Nat.le_refl _ | (dsimp only; omega))⟩

  · obtain rfl : t = 16 := by omega
    refine Sm.seq ?_
    refine Sm.seq ?_
    refine Sm.regionG hF rfl ?_
    refine SmG.v hF rfl rfl rfl (opV_move rfl rfl) ?_
    refine SmG.v hF rfl rfl rfl (opV_bin rfl rfl rfl (by first | exact rd_lssT _ _ _ _ _ (by omega) | exact rd_lssF _ _ _ _ _ (by omega) | exact rb_lss _ _ _ _ _ _ _)) ?_
    refine SmG.nil ?_
    refine nextS_normal ?_
    refine Sm.condF hF rfl ?_
    refine Sm.exit ?_
    simp only [nextS, blockS, reduceIte, reduceCtorEq]
    refine Sm.seq ?_
    refine Sm.seq ?_
    refine Sm.regionG hF rfl ?_
    refine SmG.v hF rfl rfl rfl (opV_assign rfl rfl) ?_
    refine SmG.nil ?_
    refine nextS_normal ?_
    refine Sm.block ?_
    refine Sm.loop (ι := {t : Nat // 16 ≤ t ∧ t ≤ 64}) (fun t => ⟨[(0, .d (bytesL b)), (2, .ref 0 0 0), (3, .ref 1 0 0), (6, .d (.v (.int .i64 t.1)))], [(1, dW 64 (Sha.grown b t.1)), (0, dW 64 (List.replicate 64 0))], 2⟩) (fun t => 64 - t.1) (⟨16, by omega, by omega⟩) ?_ ?_
    · refine St.le_of (by simp [leE, look, constD]) ⟨?_, rfl, trivial⟩ (Nat.le_refl _)
      show _ = some (dW 64 (Sha.grown b 16))
      rw [← Sha.grown_first]; rfl
    rintro ⟨t, ht, ht2⟩
    simp only

    by_cases hlt : t < 64
    · have hln := Sha.grown_length b t ht ht2
      have h1 := get_word (Sha.grown b t) (t - 16) (by omega)
      have h2 := get_word (Sha.grown b t) (t - 7) (by omega)
      have h3 := get_word (Sha.grown b t) (t - 15) (by omega)
      have h4 := get_word (Sha.grown b t) (t - 2) (by omega)
      have hset := Sha.grown_succ b t ht hlt
      have hst := set_word' (Sha.grown b t) t ((Sha.grown b t).getD (t - 16) 0 + (Sha.grown b t).getD (t - 7) 0 + Sha.low ((Sha.grown b t).getD (t - 15) 0) + Sha.high ((Sha.grown b t).getD (t - 2) 0))
      rw [← hset] at hst
      generalize (Sha.grown b t).getD (t - 16) 0 = x1 at h1 hst
      generalize (Sha.grown b t).getD (t - 7) 0 = x2 at h2 hst
      generalize (Sha.grown b t).getD (t - 15) 0 = y at h3 hst
      generalize (Sha.grown b t).getD (t - 2) 0 = z at h4 hst
      simp only [Sha.low, Sha.high] at hst
      have c1 : ((t : Int) - 16).toNat = t - 16 := by omega
      have c2 : ((t : Int) - 7).toNat = t - 7 := by omega
      have c3 : ((t : Int) - 15).toNat = t - 15 := by omega
      have c4 : ((t : Int) - 2).toNat = t - 2 := by omega

      refine Sm.seq ?_
      refine Sm.seq ?_
      refine Sm.regionG hF rfl ?_
      refine SmG.v hF rfl rfl rfl (opV_move rfl rfl) ?_
      refine SmG.v hF rfl rfl rfl (opV_bin rfl rfl rfl (by first | exact rd_lssT _ _ _ _ _ (by omega) | exact rd_lssF _ _ _ _ _ (by omega) | exact rb_lss _ _ _ _ _ _ _)) ?_
      refine SmG.nil ?_
      refine nextS_normal ?_
      refine Sm.condT hF rfl ?_
      refine Sm.skip ?_
      refine nextS_normal ?_
      refine Sm.seq ?_
      refine Sm.block ?_
      refine Sm.seq ?_
      refine Sm.regionG hF rfl ?_
      refine SmG.v hF rfl rfl rfl (opV_move rfl rfl) ?_
      refine SmG.v hF rfl rfl rfl (opV_bin rfl rfl rfl (by first | exact rd_sub _ _ _ _ _ (wrapI64 _ (by omega)) | exact rb_sub _ _ _ _ _ _ _)) ?_
      refine SmG.v hF rfl rfl rfl (opV_indexAddr rfl rfl rfl (by simp (disch := omega) only [go_sem, Nat.reduceEqDiff, iteP, u32D, h1, h2, h3, h4, c1, c2, c3, c4] <;> rfl)) ?_
      refine SmG.v hF rfl rfl rfl (opV_load rfl rfl (by simp (disch := omega) only [go_sem, Nat.reduceEqDiff, iteP, u32D, h1, h2, h3, h4, c1, c2, c3, c4] <;> rfl)) ?_
      refine SmG.v hF rfl rfl rfl (opV_assign rfl rfl) ?_
      refine SmG.nil ?_
      refine nextS_normal ?_
      refine Sm.seq ?_
      refine Sm.regionG hF rfl ?_
      refine SmG.v hF rfl rfl rfl (opV_move rfl rfl) ?_
      refine SmG.v hF rfl rfl rfl (opV_bin rfl rfl rfl (by first | exact rd_sub _ _ _ _ _ (wrapI64 _ (by omega)) | exact rb_sub _ _ _ _ _ _ _)) ?_
      refine SmG.v hF rfl rfl rfl (opV_indexAddr rfl rfl rfl (by simp (disch := omega) only [go_sem, Nat.reduceEqDiff, iteP, u32D, h1, h2, h3, h4, c1, c2, c3, c4] <;> rfl)) ?_
      refine SmG.v hF rfl rfl rfl (opV_load rfl rfl (by simp (disch := omega) only [go_sem, Nat.reduceEqDiff, iteP, u32D, h1, h2, h3, h4, c1, c2, c3, c4] <;> rfl)) ?_
      refine SmG.v hF rfl rfl rfl (opV_assign rfl rfl) ?_
      refine SmG.nil ?_
      refine nextS_normal ?_
      refine Sm.drawG hF (by kernel_rfl) rfl 29 (by kernel_rfl) (by kernel_rfl) ?_
      simp only [List.take_succ_cons, List.take_zero, List.take_nil]
      refine Head.v hF rfl rfl rfl (opV_move rfl rfl) ?_
      refine Head.v hF rfl rfl rfl (opV_move rfl rfl) ?_
      refine Head.v hF rfl rfl rfl (opV_bin rfl rfl rfl (by first | exact rd_sub _ _ _ _ _ (wrapI64 _ (by omega)) | exact rb_sub _ _ _ _ _ _ _)) ?_
      refine Head.v hF rfl rfl rfl (opV_indexAddr rfl rfl rfl (by simp (disch := omega) only [go_sem, Nat.reduceEqDiff, iteP, u32D, h1, h2, h3, h4, c1, c2, c3, c4] <;> rfl)) ?_
      refine Head.v hF rfl rfl rfl (opV_load rfl rfl (by simp (disch := omega) only [go_sem, Nat.reduceEqDiff, iteP, u32D, h1, h2, h3, h4, c1, c2, c3, c4] <;> rfl)) ?_
      refine Head.v hF rfl rfl rfl (opV_move rfl rfl) ?_
      refine Head.v hF rfl rfl rfl (opV_bin rfl rfl rfl (by first | exact rd_sub _ _ _ _ _ (wrapI64 _ (by omega)) | exact rb_sub _ _ _ _ _ _ _)) ?_
      refine Head.v hF rfl rfl rfl (opV_indexAddr rfl rfl rfl (by simp (disch := omega) only [go_sem, Nat.reduceEqDiff, iteP, u32D, h1, h2, h3, h4, c1, c2, c3, c4] <;> rfl)) ?_
      refine Head.v hF rfl rfl rfl (opV_load rfl rfl (by simp (disch := omega) only [go_sem, Nat.reduceEqDiff, iteP, u32D, h1, h2, h3, h4, c1, c2, c3, c4] <;> rfl)) ?_
      refine Head.v hF rfl rfl rfl (opV_bin rfl rfl rfl (by first | exact rw_add _ _ _ _ _ _ | exact rb_add _ _ _ _ _ _ _)) ?_
      refine Head.v hF rfl rfl rfl (opV_move rfl rfl) ?_
      refine Head.c hF rfl rfl (by kernel_rfl) rfl rfl rfl (turn_D 7 y rfl (by omega) G) ?_
      refine Head.v hF rfl rfl rfl (opV_move rfl rfl) ?_
      refine Head.c hF rfl rfl (by kernel_rfl) rfl rfl rfl (turn_D 18 y rfl (by omega) G) ?_
      refine Head.v hF rfl rfl rfl (opV_bin rfl rfl rfl (by first | exact rw_xor _ _ _ _ _ _ | exact rb_xor _ _ _ _ _ _ _)) ?_
      refine Head.v hF rfl rfl rfl (opV_move rfl rfl) ?_
      refine Head.v hF rfl rfl rfl (opV_bin rfl rfl rfl (rw_shr _ _ _ _ 3 _ rfl (by omega) y)) ?_
      refine Head.v hF rfl rfl rfl (opV_bin rfl rfl rfl (by first | exact rw_xor _ _ _ _ _ _ | exact rb_xor _ _ _ _ _ _ _)) ?_
      refine Head.v hF rfl rfl rfl (opV_bin rfl rfl rfl (by first | exact rw_add _ _ _ _ _ _ | exact rb_add _ _ _ _ _ _ _)) ?_
      refine Head.v hF rfl rfl rfl (opV_move rfl rfl) ?_
      refine Head.c hF rfl rfl (by kernel_rfl) rfl rfl rfl (turn_D 17 z rfl (by omega) G) ?_
      refine Head.v hF rfl rfl rfl (opV_move rfl rfl) ?_
      refine Head.c hF rfl rfl (by kernel_rfl) rfl rfl rfl (turn_D 19 z rfl (by omega) G) ?_
      refine Head.v hF rfl rfl rfl (opV_bin rfl rfl rfl (by first | exact rw_xor _ _ _ _ _ _ | exact rb_xor _ _ _ _ _ _ _)) ?_
      refine Head.v hF rfl rfl rfl (opV_move rfl rfl) ?_
      refine Head.v hF rfl rfl rfl (opV_bin rfl rfl rfl (rw_shr _ _ _ _ 10 _ rfl (by omega) z)) ?_
      refine Head.v hF rfl rfl rfl (opV_bin rfl rfl rfl (by first | exact rw_xor _ _ _ _ _ _ | exact rb_xor _ _ _ _ _ _ _)) ?_
      refine Head.v hF rfl rfl rfl (opV_bin rfl rfl rfl (by first | exact rw_add _ _ _ _ _ _ | exact rb_add _ _ _ _ _ _ _)) ?_
      refine Head.v hF rfl rfl rfl (opV_indexAddr rfl rfl rfl (by simp (disch := omega) only [go_sem, Nat.reduceEqDiff, iteP, u32D, h1, h2, h3, h4, c1, c2, c3, c4] <;> rfl)) ?_
      refine Head.last ⟨rfl, ?_⟩
      simp only [List.drop_succ_cons, List.drop_zero, List.drop_nil, List.nil_append, List.cons_append]
      refine SmG.store hF rfl rfl rfl rfl rfl (by simp (disch := omega) only [go_sem, Nat.reduceEqDiff, iteP, u32D, h1, h2, h3, h4, c1, c2, c3, c4] <;> rfl) ?_
      refine SmG.nil ?_
      refine blockS_normal ?_
      refine nextS_normal ?_
      refine Sm.regionG hF rfl ?_
      refine SmG.v hF rfl rfl rfl (opV_move rfl rfl) ?_
      refine SmG.v hF rfl rfl rfl (opV_bin rfl rfl rfl (by first | exact rd_add _ _ _ _ _ (wrapI64 _ (by omega)) | exact rb_add _ _ _ _ _ _ _)) ?_
      refine SmG.v hF rfl rfl rfl (opV_assign rfl rfl) ?_
      refine SmG.nil ?_
      refine nextS_normal ?_
      exact ⟨⟨t + 1, by omega, by omega⟩, by show 64 - (t + 1) < 64 - t; omega, by exact St.le_of (by first | (simp [leE, look, constD] <;> omega) | (simp [leE, look, constD, hst] <;> omega)) (by simp only [leH, look, rep, reduceIte, Nat.reduceEqDiff, List.set_cons_zero, List.set_cons_succ, hst, and_self, and_true, and_false, false_and, if_true, if_false] <;> (repeat' first | rfl | constructor)) (by first | exact Nat.le_refl _ | (dsimp only; omega))⟩

    · obtain rfl : t = 64 := by omega
      have hln := Sha.grown_length b 64 ht ht2
      have hll : (List.map u32D (Sha.grown b 64)).length = 64 := by rw [List.length_map, hln]
      refine Sm.seq ?_
      refine Sm.seq ?_
      refine Sm.regionG hF rfl ?_
      refine SmG.v hF rfl rfl rfl (opV_move rfl rfl) ?_
      refine SmG.v hF rfl rfl rfl (opV_bin rfl rfl rfl (by first | exact rd_lssT _ _ _ _ _ (by omega) | exact rd_lssF _ _ _ _ _ (by omega) | exact rb_lss _ _ _ _ _ _ _)) ?_
      refine SmG.nil ?_
      refine nextS_normal ?_
      refine Sm.condF hF rfl ?_
      refine Sm.exit ?_
      simp only [nextS, blockS, reduceIte, reduceCtorEq]
      refine Sm.seq ?_
      refine Sm.regionG hF rfl ?_
      refine SmG.v hF rfl rfl rfl (opV_load rfl rfl (by simp (disch := omega) only [go_sem, Nat.reduceEqDiff, iteP, u32D] <;> rfl)) ?_
      refine SmG.store hF rfl rfl rfl rfl rfl (by simp (disch := omega) only [go_sem, Nat.reduceEqDiff, iteP, u32D] <;> rfl) ?_
      refine SmG.nil ?_
      refine nextS_normal ?_
      refine Sm.ret ?_
      refine retQ_cell rfl rfl (by simp (disch := omega) only [go_sem, Nat.reduceEqDiff, iteP, hll] <;> rfl) ?_
      rw [Sha.grown_last]; exact D.le.refl _
end Go.Proofs.YtmindblfbijaaaaDoor
namespace Go.Proofs.YtmindblfbijaaaaDoor
open Go.RowKit
set_option maxRecDepth 100000
/-- Words to which the first ones of others are added. -/
def addTo (c s : List UInt32) (i : Nat) : List UInt32 := (List.zipWith (· + ·) c s).take i ++ c.drop i
theorem addTo_zero (c s : List UInt32) : addTo c s 0 = c := by simp [addTo]
theorem addTo_get (c s : List UInt32) (i : Nat) (hl : c.length = s.length) (hi : i < c.length) : (addTo c s i)[i]? = some (c.getD i 0) := by
  unfold addTo
  have : ((List.zipWith (· + ·) c s).take i).length = i := by simp [hl]; omega
  rw [List.getElem?_append_right (by omega), this, Nat.sub_self, List.getElem?_drop]
  simp [List.getD, hi]
theorem addTo_set (c s : List UInt32) (i : Nat) (hl : c.length = s.length) (hi : i < c.length) : (addTo c s i).set i (c.getD i 0 + s.getD i 0) = addTo c s (i + 1) := by
  unfold addTo
  have h1 : ((List.zipWith (· + ·) c s).take i).length = i := by simp [hl]; omega
  rw [List.set_append_right _ _ (by omega), h1, Nat.sub_self, List.drop_eq_getElem_cons hi, List.set_cons_zero, List.take_succ_eq_append_getElem (by simp; omega)]
  simp [List.getD, hi, show i < s.length by omega]
theorem addTo_all (c s : List UInt32) (hl : c.length = s.length) : addTo c s c.length = List.zipWith (· + ·) c s := by
  unfold addTo
  rw [List.take_of_length_le (by simp; omega), List.drop_length, List.append_nil]
theorem rounds_succ (w : List UInt32) (s : Sha.S8) (n : Nat) : Sha.rounds w s (n + 1) = Sha.round (Sha.rounds w s n) (Sha.keys64.getD n 0) (w.getD n 0) := rfl
theorem build_eight (a0 a1 a2 a3 a4 a5 a6 a7 : Int) : buildS Tryd.prog 57 [(0, V.d (.v (.int .u32 a0))), (1, V.d (.v (.int .u32 a1))), (2, V.d (.v (.int .u32 a2))), (3, V.d (.v (.int .u32 a3))), (4, V.d (.v (.int .u32 a4))), (5, V.d (.v (.int .u32 a5))), (6, V.d (.v (.int .u32 a6))), (7, V.d (.v (.int .u32 a7)))] = some (.d (.agg 8 [.v (.int .u32 a0), .v (.int .u32 a1), .v (.int .u32 a2), .v (.int .u32 a3), .v (.int .u32 a4), .v (.int .u32 a5), .v (.int .u32 a6), .v (.int .u32 a7)])) := by kernel_rfl

set_option maxHeartbeats 4000000 in
theorem step_D (S : Sha.S8) (b : List UInt8) (hb : b.length = 64) (G : Nat → Option D) : CallsD Tryd.prog G 34 [.agg 8 (S.list.map u32D), bytesL b] (.agg 8 ((Sha.after S b).list.map u32D)) := by
  have hkeys := keys_D G
  have hks := rounds_succ (Sha.spread b) S
  have hkl : Sha.keys64.length = 64 := by decide
  have haf : Sha.after S b = Sha.plus S (Sha.rounds (Sha.spread b) S 64) := rfl
  generalize Sha.keys64 = K at hkeys hks hkl
  have hwl : (Sha.spread b).length = 64 := by rw [← Sha.grown_last, Sha.grown_length b 64 (by omega) (by omega)]
  have hSl : S.list.length = 8 := rfl
  have hKl : (List.map u32D K).length = 64 := by rw [List.length_map, hkl]
  have hWl : (List.map u32D (Sha.spread b)).length = 64 := by rw [List.length_map, hwl]
  have hSS : (List.map u32D S.list).length = 8 := by rw [List.length_map, hSl]
  refine CallsD.of Tryd.func34 rfl Tryd.ntmps34 (by simp) ?_; intro F hF; simp only [List.zipIdx_cons, List.zipIdx_nil, List.map_cons, List.map_nil, Nat.zero_add, Nat.reduceAdd]
  refine Sm.seq ?_
  refine Sm.regionG hF rfl ?_
  refine SmG.new hF rfl rfl rfl (opS_box rfl rfl (by simp (disch := omega) only [go_sem, Nat.reduceEqDiff, iteP, u32D] <;> rfl)) ?_
  refine SmG.new hF rfl rfl rfl (opS_alloc rfl al57) ?_
  refine SmG.nil ?_
  refine nextS_normal ?_
  refine Sm.seq ?_
  refine Sm.regionG hF rfl ?_
  refine SmG.v hF rfl rfl rfl (opV_move rfl rfl) ?_
  refine SmG.call hF rfl rfl (by kernel_rfl) rfl rfl rfl (spread_D b hb G) ?_
  refine SmG.new hF rfl rfl rfl (opS_alloc rfl al73) ?_
  refine SmG.store hF rfl rfl rfl rfl rfl (by simp (disch := omega) only [go_sem, Nat.reduceEqDiff, iteP, u32D] <;> rfl) ?_
  refine SmG.nil ?_
  refine nextS_normal ?_
  refine Sm.seq ?_
  refine Sm.regionG hF rfl ?_
  refine SmG.call hF rfl rfl (by kernel_rfl) rfl rfl rfl (hkeys) ?_
  refine SmG.new hF rfl rfl rfl (opS_alloc rfl al73) ?_
  refine SmG.store hF rfl rfl rfl rfl rfl (by simp (disch := omega) only [go_sem, Nat.reduceEqDiff, iteP, u32D] <;> rfl) ?_
  refine SmG.nil ?_
  refine nextS_normal ?_
  refine Sm.seq ?_
  refine Sm.regionG hF rfl ?_
  refine SmG.v hF rfl rfl rfl (opV_load rfl rfl (by simp (disch := omega) only [go_sem, Nat.reduceEqDiff, iteP, u32D] <;> rfl)) ?_
  refine SmG.new hF rfl rfl rfl (opS_alloc rfl al57) ?_
  refine SmG.store hF rfl rfl rfl rfl rfl (by simp (disch := omega) only [go_sem, Nat.reduceEqDiff, iteP, u32D] <;> rfl) ?_
  refine SmG.nil ?_
  refine nextS_normal ?_
  refine Sm.seq ?_
  refine Sm.seq ?_
  refine Sm.regionG hF rfl ?_
  refine SmG.v hF rfl rfl rfl (opV_assign rfl rfl) ?_
  refine SmG.nil ?_
  refine nextS_normal ?_
  refine Sm.block ?_
  generalize hW : Sha.spread b = W at hks haf hwl hWl ⊢
  refine Sm.loop (ι := {t : Nat // t ≤ 64}) (fun t => ⟨[(2, .ref 0 0 0), (4, .ref 1 0 0), (5, .ref 2 0 0), (6, .ref 3 0 0), (7, .ref 4 0 0), (8, .d (.v (.int .i64 t.1)))], [(4, dW 8 (Sha.rounds W S t.1).list), (3, dW 64 K), (2, dW 64 W), (1, dW 8 (List.replicate 8 0)), (0, dW 8 S.list)], 5⟩) (fun t => 64 - t.1) (⟨0, by omega⟩) ?_ ?_
  · exact St.le_of (by first | (simp [leE, look, constD] <;> omega) | (simp [leE, look, constD, true_and] <;> omega)) (by simp only [leH, look, rep, reduceIte, Nat.reduceEqDiff, List.set_cons_zero, List.set_cons_succ, true_and, and_self, and_true, and_false, false_and, if_true, if_false] <;> (repeat' first | rfl | constructor)) (by first | exact Nat.le_refl _ | (dsimp only; omega))
  rintro ⟨t, ht⟩
  simp only

  by_cases hlt : t < 64
  · have hk1 := get_word K t (by omega)
    have hw1 := get_word W t (by omega)
    have hs := hks t
    generalize K.getD t 0 = k at hk1 hs
    generalize W.getD t 0 = x at hw1 hs
    generalize Sha.rounds W S t = c at hs ⊢
    rcases c with ⟨a, b1, c, d, e, f, g, h⟩
    have hrow : (Sha.rounds W S (t + 1)).list = [Sha.tx ⟨a, b1, c, d, e, f, g, h⟩ k x + Sha.ty ⟨a, b1, c, d, e, f, g, h⟩, a, b1, c, d + Sha.tx ⟨a, b1, c, d, e, f, g, h⟩ k x, e, f, g] := by rw [hs]; rfl
    simp only [Sha.tx, Sha.ty, Sha.rot3] at hrow
    rw [show Sha.S8.list ⟨a, b1, c, d, e, f, g, h⟩ = [a, b1, c, d, e, f, g, h] from rfl]

    refine Sm.seq ?_
    refine Sm.seq ?_
    refine Sm.regionG hF rfl ?_
    refine SmG.v hF rfl rfl rfl (opV_move rfl rfl) ?_
    refine SmG.v hF rfl rfl rfl (opV_bin rfl rfl rfl (by first | exact rd_lssT _ _ _ _ _ (by omega) | exact rd_lssF _ _ _ _ _ (by omega) | exact rb_lss _ _ _ _ _ _ _)) ?_
    refine SmG.nil ?_
    refine nextS_normal ?_
    refine Sm.condT hF rfl ?_
    refine Sm.skip ?_
    refine nextS_normal ?_
    refine Sm.seq ?_
    refine Sm.block ?_
    refine Sm.seq ?_
    refine Sm.drawG hF (by kernel_rfl) rfl 36 (by kernel_rfl) (by kernel_rfl) ?_
    simp only [List.take_succ_cons, List.take_zero, List.take_nil]
    refine Head.v hF rfl rfl rfl (opV_indexAddr rfl rfl rfl (by simp (disch := omega) only [go_sem, Nat.reduceEqDiff, iteP, u32D, hk1, hw1, hkl, hwl] <;> rfl)) ?_
    refine Head.v hF rfl rfl rfl (opV_load rfl rfl (by simp (disch := omega) only [go_sem, Nat.reduceEqDiff, iteP, u32D, hk1, hw1, hkl, hwl] <;> rfl)) ?_
    refine Head.v hF rfl rfl rfl (opV_indexAddr rfl rfl rfl (by simp (disch := omega) only [go_sem, Nat.reduceEqDiff, iteP, u32D, hk1, hw1, hkl, hwl] <;> rfl)) ?_
    refine Head.v hF rfl rfl rfl (opV_load rfl rfl (by simp (disch := omega) only [go_sem, Nat.reduceEqDiff, iteP, u32D, hk1, hw1, hkl, hwl] <;> rfl)) ?_
    refine Head.c hF rfl rfl (by kernel_rfl) rfl rfl rfl (turn_D 6 e rfl (by omega) G) ?_
    refine Head.v hF rfl rfl rfl (opV_indexAddr rfl rfl rfl (by simp (disch := omega) only [go_sem, Nat.reduceEqDiff, iteP, u32D, hk1, hw1, hkl, hwl] <;> rfl)) ?_
    refine Head.v hF rfl rfl rfl (opV_load rfl rfl (by simp (disch := omega) only [go_sem, Nat.reduceEqDiff, iteP, u32D, hk1, hw1, hkl, hwl] <;> rfl)) ?_
    refine Head.c hF rfl rfl (by kernel_rfl) rfl rfl rfl (turn_D 11 e rfl (by omega) G) ?_
    refine Head.v hF rfl rfl rfl (opV_bin rfl rfl rfl (by first | exact rw_xor _ _ _ _ _ _ | exact rb_xor _ _ _ _ _ _ _)) ?_
    refine Head.v hF rfl rfl rfl (opV_indexAddr rfl rfl rfl (by simp (disch := omega) only [go_sem, Nat.reduceEqDiff, iteP, u32D, hk1, hw1, hkl, hwl] <;> rfl)) ?_
    refine Head.v hF rfl rfl rfl (opV_load rfl rfl (by simp (disch := omega) only [go_sem, Nat.reduceEqDiff, iteP, u32D, hk1, hw1, hkl, hwl] <;> rfl)) ?_
    refine Head.c hF rfl rfl (by kernel_rfl) rfl rfl rfl (turn_D 25 e rfl (by omega) G) ?_
    refine Head.v hF rfl rfl rfl (opV_bin rfl rfl rfl (by first | exact rw_xor _ _ _ _ _ _ | exact rb_xor _ _ _ _ _ _ _)) ?_
    refine Head.v hF rfl rfl rfl (opV_bin rfl rfl rfl (by first | exact rw_add _ _ _ _ _ _ | exact rb_add _ _ _ _ _ _ _)) ?_
    refine Head.v hF rfl rfl rfl (opV_indexAddr rfl rfl rfl (by simp (disch := omega) only [go_sem, Nat.reduceEqDiff, iteP, u32D, hk1, hw1, hkl, hwl] <;> rfl)) ?_
    refine Head.v hF rfl rfl rfl (opV_load rfl rfl (by simp (disch := omega) only [go_sem, Nat.reduceEqDiff, iteP, u32D, hk1, hw1, hkl, hwl] <;> rfl)) ?_
    refine Head.v hF rfl rfl rfl (opV_indexAddr rfl rfl rfl (by simp (disch := omega) only [go_sem, Nat.reduceEqDiff, iteP, u32D, hk1, hw1, hkl, hwl] <;> rfl)) ?_
    refine Head.v hF rfl rfl rfl (opV_load rfl rfl (by simp (disch := omega) only [go_sem, Nat.reduceEqDiff, iteP, u32D, hk1, hw1, hkl, hwl] <;> rfl)) ?_
    refine Head.v hF rfl rfl rfl (opV_bin rfl rfl rfl (by first | exact rw_and _ _ _ _ _ _ | exact rb_and _ _ _ _ _ _ _)) ?_
    refine Head.v hF rfl rfl rfl (opV_indexAddr rfl rfl rfl (by simp (disch := omega) only [go_sem, Nat.reduceEqDiff, iteP, u32D, hk1, hw1, hkl, hwl] <;> rfl)) ?_
    refine Head.v hF rfl rfl rfl (opV_load rfl rfl (by simp (disch := omega) only [go_sem, Nat.reduceEqDiff, iteP, u32D, hk1, hw1, hkl, hwl] <;> rfl)) ?_
    refine Head.v hF rfl rfl rfl (opV_un rfl rfl (rw_not _ _)) ?_
    refine Head.v hF rfl rfl rfl (opV_indexAddr rfl rfl rfl (by simp (disch := omega) only [go_sem, Nat.reduceEqDiff, iteP, u32D, hk1, hw1, hkl, hwl] <;> rfl)) ?_
    refine Head.v hF rfl rfl rfl (opV_load rfl rfl (by simp (disch := omega) only [go_sem, Nat.reduceEqDiff, iteP, u32D, hk1, hw1, hkl, hwl] <;> rfl)) ?_
    refine Head.v hF rfl rfl rfl (opV_bin rfl rfl rfl (by first | exact rw_and _ _ _ _ _ _ | exact rb_and _ _ _ _ _ _ _)) ?_
    refine Head.v hF rfl rfl rfl (opV_bin rfl rfl rfl (by first | exact rw_xor _ _ _ _ _ _ | exact rb_xor _ _ _ _ _ _ _)) ?_
    refine Head.v hF rfl rfl rfl (opV_bin rfl rfl rfl (by first | exact rw_add _ _ _ _ _ _ | exact rb_add _ _ _ _ _ _ _)) ?_
    refine Head.v hF rfl rfl rfl (opV_move rfl rfl) ?_
    refine Head.v hF rfl rfl rfl (opV_indexAddr rfl rfl rfl (by simp (disch := omega) only [go_sem, Nat.reduceEqDiff, iteP, u32D, hk1, hw1, hkl, hwl] <;> rfl)) ?_
    refine Head.v hF rfl rfl rfl (opV_load rfl rfl (by simp (disch := omega) only [go_sem, Nat.reduceEqDiff, iteP, u32D, hk1, hw1, hkl, hwl] <;> rfl)) ?_
    refine Head.v hF rfl rfl rfl (opV_bin rfl rfl rfl (by first | exact rw_add _ _ _ _ _ _ | exact rb_add _ _ _ _ _ _ _)) ?_
    refine Head.v hF rfl rfl rfl (opV_move rfl rfl) ?_
    refine Head.v hF rfl rfl rfl (opV_indexAddr rfl rfl rfl (by simp (disch := omega) only [go_sem, Nat.reduceEqDiff, iteP, u32D, hk1, hw1, hkl, hwl] <;> rfl)) ?_
    refine Head.v hF rfl rfl rfl (opV_load rfl rfl (by simp (disch := omega) only [go_sem, Nat.reduceEqDiff, iteP, u32D, hk1, hw1, hkl, hwl] <;> rfl)) ?_
    refine Head.v hF rfl rfl rfl (opV_bin rfl rfl rfl (by first | exact rw_add _ _ _ _ _ _ | exact rb_add _ _ _ _ _ _ _)) ?_
    refine Head.v hF rfl rfl rfl (opV_assign rfl rfl) ?_
    refine Head.last ⟨rfl, ?_⟩
    simp only [List.drop_succ_cons, List.drop_zero, List.drop_nil, List.nil_append, List.cons_append]
    refine SmG.nil ?_
    refine nextS_normal ?_
    refine Sm.seq ?_
    refine Sm.drawG hF (by kernel_rfl) rfl 30 (by kernel_rfl) (by kernel_rfl) ?_
    simp only [List.take_succ_cons, List.take_zero, List.take_nil]
    refine Head.v hF rfl rfl rfl (opV_indexAddr rfl rfl rfl (by simp (disch := omega) only [go_sem, Nat.reduceEqDiff, iteP, u32D, hk1, hw1, hkl, hwl] <;> rfl)) ?_
    refine Head.v hF rfl rfl rfl (opV_load rfl rfl (by simp (disch := omega) only [go_sem, Nat.reduceEqDiff, iteP, u32D, hk1, hw1, hkl, hwl] <;> rfl)) ?_
    refine Head.c hF rfl rfl (by kernel_rfl) rfl rfl rfl (turn_D 2 a rfl (by omega) G) ?_
    refine Head.v hF rfl rfl rfl (opV_indexAddr rfl rfl rfl (by simp (disch := omega) only [go_sem, Nat.reduceEqDiff, iteP, u32D, hk1, hw1, hkl, hwl] <;> rfl)) ?_
    refine Head.v hF rfl rfl rfl (opV_load rfl rfl (by simp (disch := omega) only [go_sem, Nat.reduceEqDiff, iteP, u32D, hk1, hw1, hkl, hwl] <;> rfl)) ?_
    refine Head.c hF rfl rfl (by kernel_rfl) rfl rfl rfl (turn_D 13 a rfl (by omega) G) ?_
    refine Head.v hF rfl rfl rfl (opV_bin rfl rfl rfl (by first | exact rw_xor _ _ _ _ _ _ | exact rb_xor _ _ _ _ _ _ _)) ?_
    refine Head.v hF rfl rfl rfl (opV_indexAddr rfl rfl rfl (by simp (disch := omega) only [go_sem, Nat.reduceEqDiff, iteP, u32D, hk1, hw1, hkl, hwl] <;> rfl)) ?_
    refine Head.v hF rfl rfl rfl (opV_load rfl rfl (by simp (disch := omega) only [go_sem, Nat.reduceEqDiff, iteP, u32D, hk1, hw1, hkl, hwl] <;> rfl)) ?_
    refine Head.c hF rfl rfl (by kernel_rfl) rfl rfl rfl (turn_D 22 a rfl (by omega) G) ?_
    refine Head.v hF rfl rfl rfl (opV_bin rfl rfl rfl (by first | exact rw_xor _ _ _ _ _ _ | exact rb_xor _ _ _ _ _ _ _)) ?_
    refine Head.v hF rfl rfl rfl (opV_indexAddr rfl rfl rfl (by simp (disch := omega) only [go_sem, Nat.reduceEqDiff, iteP, u32D, hk1, hw1, hkl, hwl] <;> rfl)) ?_
    refine Head.v hF rfl rfl rfl (opV_load rfl rfl (by simp (disch := omega) only [go_sem, Nat.reduceEqDiff, iteP, u32D, hk1, hw1, hkl, hwl] <;> rfl)) ?_
    refine Head.v hF rfl rfl rfl (opV_indexAddr rfl rfl rfl (by simp (disch := omega) only [go_sem, Nat.reduceEqDiff, iteP, u32D, hk1, hw1, hkl, hwl] <;> rfl)) ?_
    refine Head.v hF rfl rfl rfl (opV_load rfl rfl (by simp (disch := omega) only [go_sem, Nat.reduceEqDiff, iteP, u32D, hk1, hw1, hkl, hwl] <;> rfl)) ?_
    refine Head.v hF rfl rfl rfl (opV_bin rfl rfl rfl (by first | exact rw_and _ _ _ _ _ _ | exact rb_and _ _ _ _ _ _ _)) ?_
    refine Head.v hF rfl rfl rfl (opV_indexAddr rfl rfl rfl (by simp (disch := omega) only [go_sem, Nat.reduceEqDiff, iteP, u32D, hk1, hw1, hkl, hwl] <;> rfl)) ?_
    refine Head.v hF rfl rfl rfl (opV_load rfl rfl (by simp (disch := omega) only [go_sem, Nat.reduceEqDiff, iteP, u32D, hk1, hw1, hkl, hwl] <;> rfl)) ?_
    refine Head.v hF rfl rfl rfl (opV_indexAddr rfl rfl rfl (by simp (disch := omega) only [go_sem, Nat.reduceEqDiff, iteP, u32D, hk1, hw1, hkl, hwl] <;> rfl)) ?_
    refine Head.v hF rfl rfl rfl (opV_load rfl rfl (by simp (disch := omega) only [go_sem, Nat.reduceEqDiff, iteP, u32D, hk1, hw1, hkl, hwl] <;> rfl)) ?_
    refine Head.v hF rfl rfl rfl (opV_bin rfl rfl rfl (by first | exact rw_and _ _ _ _ _ _ | exact rb_and _ _ _ _ _ _ _)) ?_
    refine Head.v hF rfl rfl rfl (opV_bin rfl rfl rfl (by first | exact rw_xor _ _ _ _ _ _ | exact rb_xor _ _ _ _ _ _ _)) ?_
    refine Head.v hF rfl rfl rfl (opV_indexAddr rfl rfl rfl (by simp (disch := omega) only [go_sem, Nat.reduceEqDiff, iteP, u32D, hk1, hw1, hkl, hwl] <;> rfl)) ?_
    refine Head.v hF rfl rfl rfl (opV_load rfl rfl (by simp (disch := omega) only [go_sem, Nat.reduceEqDiff, iteP, u32D, hk1, hw1, hkl, hwl] <;> rfl)) ?_
    refine Head.v hF rfl rfl rfl (opV_indexAddr rfl rfl rfl (by simp (disch := omega) only [go_sem, Nat.reduceEqDiff, iteP, u32D, hk1, hw1, hkl, hwl] <;> rfl)) ?_
    refine Head.v hF rfl rfl rfl (opV_load rfl rfl (by simp (disch := omega) only [go_sem, Nat.reduceEqDiff, iteP, u32D, hk1, hw1, hkl, hwl] <;> rfl)) ?_
    refine Head.v hF rfl rfl rfl (opV_bin rfl rfl rfl (by first | exact rw_and _ _ _ _ _ _ | exact rb_and _ _ _ _ _ _ _)) ?_
    refine Head.v hF rfl rfl rfl (opV_bin rfl rfl rfl (by first | exact rw_xor _ _ _ _ _ _ | exact rb_xor _ _ _ _ _ _ _)) ?_
    refine Head.v hF rfl rfl rfl (opV_bin rfl rfl rfl (by first | exact rw_add _ _ _ _ _ _ | exact rb_add _ _ _ _ _ _ _)) ?_
    refine Head.v hF rfl rfl rfl (opV_assign rfl rfl) ?_
    refine Head.last ⟨rfl, ?_⟩
    simp only [List.drop_succ_cons, List.drop_zero, List.drop_nil, List.nil_append, List.cons_append]
    refine SmG.nil ?_
    refine nextS_normal ?_
    refine Sm.regionG hF rfl ?_
    refine SmG.v hF rfl rfl rfl (opV_move rfl rfl) ?_
    refine SmG.v hF rfl rfl rfl (opV_move rfl rfl) ?_
    refine SmG.v hF rfl rfl rfl (opV_bin rfl rfl rfl (by first | exact rw_add _ _ _ _ _ _ | exact rb_add _ _ _ _ _ _ _)) ?_
    refine SmG.v hF rfl rfl rfl (opV_indexAddr rfl rfl rfl (by simp (disch := omega) only [go_sem, Nat.reduceEqDiff, iteP, u32D, hk1, hw1, hkl, hwl] <;> rfl)) ?_
    refine SmG.v hF rfl rfl rfl (opV_load rfl rfl (by simp (disch := omega) only [go_sem, Nat.reduceEqDiff, iteP, u32D, hk1, hw1, hkl, hwl] <;> rfl)) ?_
    refine SmG.v hF rfl rfl rfl (opV_indexAddr rfl rfl rfl (by simp (disch := omega) only [go_sem, Nat.reduceEqDiff, iteP, u32D, hk1, hw1, hkl, hwl] <;> rfl)) ?_
    refine SmG.v hF rfl rfl rfl (opV_load rfl rfl (by simp (disch := omega) only [go_sem, Nat.reduceEqDiff, iteP, u32D, hk1, hw1, hkl, hwl] <;> rfl)) ?_
    refine SmG.v hF rfl rfl rfl (opV_indexAddr rfl rfl rfl (by simp (disch := omega) only [go_sem, Nat.reduceEqDiff, iteP, u32D, hk1, hw1, hkl, hwl] <;> rfl)) ?_
    refine SmG.v hF rfl rfl rfl (opV_load rfl rfl (by simp (disch := omega) only [go_sem, Nat.reduceEqDiff, iteP, u32D, hk1, hw1, hkl, hwl] <;> rfl)) ?_
    refine SmG.v hF rfl rfl rfl (opV_indexAddr rfl rfl rfl (by simp (disch := omega) only [go_sem, Nat.reduceEqDiff, iteP, u32D, hk1, hw1, hkl, hwl] <;> rfl)) ?_
    refine SmG.v hF rfl rfl rfl (opV_load rfl rfl (by simp (disch := omega) only [go_sem, Nat.reduceEqDiff, iteP, u32D, hk1, hw1, hkl, hwl] <;> rfl)) ?_
    refine SmG.v hF rfl rfl rfl (opV_move rfl rfl) ?_
    refine SmG.v hF rfl rfl rfl (opV_bin rfl rfl rfl (by first | exact rw_add _ _ _ _ _ _ | exact rb_add _ _ _ _ _ _ _)) ?_
    refine SmG.v hF rfl rfl rfl (opV_indexAddr rfl rfl rfl (by simp (disch := omega) only [go_sem, Nat.reduceEqDiff, iteP, u32D, hk1, hw1, hkl, hwl] <;> rfl)) ?_
    refine SmG.v hF rfl rfl rfl (opV_load rfl rfl (by simp (disch := omega) only [go_sem, Nat.reduceEqDiff, iteP, u32D, hk1, hw1, hkl, hwl] <;> rfl)) ?_
    refine SmG.v hF rfl rfl rfl (opV_indexAddr rfl rfl rfl (by simp (disch := omega) only [go_sem, Nat.reduceEqDiff, iteP, u32D, hk1, hw1, hkl, hwl] <;> rfl)) ?_
    refine SmG.v hF rfl rfl rfl (opV_load rfl rfl (by simp (disch := omega) only [go_sem, Nat.reduceEqDiff, iteP, u32D, hk1, hw1, hkl, hwl] <;> rfl)) ?_
    refine SmG.v hF rfl rfl rfl (opV_indexAddr rfl rfl rfl (by simp (disch := omega) only [go_sem, Nat.reduceEqDiff, iteP, u32D, hk1, hw1, hkl, hwl] <;> rfl)) ?_
    refine SmG.v hF rfl rfl rfl (opV_load rfl rfl (by simp (disch := omega) only [go_sem, Nat.reduceEqDiff, iteP, u32D, hk1, hw1, hkl, hwl] <;> rfl)) ?_
    refine SmG.v hF rfl rfl rfl (opV_buildA rfl Tryd.underlying57 rfl (build_eight _ _ _ _ _ _ _ _)) ?_
    refine SmG.store hF rfl rfl rfl rfl rfl (by simp (disch := omega) only [go_sem, Nat.reduceEqDiff, iteP, u32D, hk1, hw1, hkl, hwl] <;> rfl) ?_
    refine SmG.nil ?_
    refine blockS_normal ?_
    refine nextS_normal ?_
    refine Sm.regionG hF rfl ?_
    refine SmG.v hF rfl rfl rfl (opV_move rfl rfl) ?_
    refine SmG.v hF rfl rfl rfl (opV_bin rfl rfl rfl (by first | exact rd_add _ _ _ _ _ (wrapI64 _ (by omega)) | exact rb_add _ _ _ _ _ _ _)) ?_
    refine SmG.v hF rfl rfl rfl (opV_assign rfl rfl) ?_
    refine SmG.nil ?_
    refine nextS_normal ?_
    exact ⟨⟨t + 1, by omega⟩, by show 64 - (t + 1) < 64 - t; omega, by exact St.le_of (by first | (simp [leE, look, constD] <;> omega) | (simp [leE, look, constD, hrow, List.map_cons, List.map_nil] <;> omega)) (by simp only [leH, look, rep, reduceIte, Nat.reduceEqDiff, List.set_cons_zero, List.set_cons_succ, hrow, List.map_cons, List.map_nil, and_self, and_true, and_false, false_and, if_true, if_false] <;> (repeat' first | rfl | constructor)) (by first | exact Nat.le_refl _ | (dsimp only; omega))⟩

  · obtain rfl : t = 64 := by omega
    have hcl : (Sha.rounds W S 64).list.length = 8 := rfl
    have hpl : (Sha.after S b).list = List.zipWith (· + ·) (Sha.rounds W S 64).list S.list := by rw [haf]; rfl
    generalize (Sha.rounds W S 64).list = C at hcl hpl ⊢
    generalize S.list = L at hSl hpl hSS ⊢
    refine Sm.seq ?_
    refine Sm.seq ?_
    refine Sm.regionG hF rfl ?_
    refine SmG.v hF rfl rfl rfl (opV_move rfl rfl) ?_
    refine SmG.v hF rfl rfl rfl (opV_bin rfl rfl rfl (by first | exact rd_lssT _ _ _ _ _ (by omega) | exact rd_lssF _ _ _ _ _ (by omega) | exact rb_lss _ _ _ _ _ _ _)) ?_
    refine SmG.nil ?_
    refine nextS_normal ?_
    refine Sm.condF hF rfl ?_
    refine Sm.exit ?_
    simp only [nextS, blockS, reduceIte, reduceCtorEq]
    refine Sm.seq ?_
    refine Sm.seq ?_
    refine Sm.regionG hF rfl ?_
    refine SmG.v hF rfl rfl rfl (opV_assign rfl rfl) ?_
    refine SmG.nil ?_
    refine nextS_normal ?_
    refine Sm.block ?_
    refine Sm.loop (ι := {i : Nat // i ≤ 8}) (fun i => ⟨[(2, .ref 0 0 0), (4, .ref 1 0 0), (7, .ref 4 0 0), (11, .d (.v (.int .i64 i.1)))], [(4, dW 8 (addTo C L i.1)), (1, dW 8 (List.replicate 8 0)), (0, dW 8 L)], 5⟩) (fun i => 8 - i.1) (⟨0, by omega⟩) ?_ ?_
    · exact St.le_of (by first | (simp [leE, look, constD] <;> omega) | (simp [leE, look, constD, addTo_zero] <;> omega)) (by simp only [leH, look, rep, reduceIte, Nat.reduceEqDiff, List.set_cons_zero, List.set_cons_succ, addTo_zero, and_self, and_true, and_false, false_and, if_true, if_false] <;> (repeat' first | rfl | constructor)) (by first | exact Nat.le_refl _ | (dsimp only; omega))
    rintro ⟨i, hi⟩
    simp only

    by_cases hlt : i < 8
    · have h1 := addTo_get C L i (by omega) (by omega)
      have h2 := get_word L i (by omega)
      have hst := set_word' (addTo C L i) i (C.getD i 0 + L.getD i 0)
      rw [addTo_set C L i (by omega) (by omega)] at hst
      generalize C.getD i 0 = x at h1 hst
      generalize L.getD i 0 = y at h2 hst

      refine Sm.seq ?_
      refine Sm.seq ?_
      refine Sm.regionG hF rfl ?_
      refine SmG.v hF rfl rfl rfl (opV_move rfl rfl) ?_
      refine SmG.v hF rfl rfl rfl (opV_bin rfl rfl rfl (by first | exact rd_lssT _ _ _ _ _ (by omega) | exact rd_lssF _ _ _ _ _ (by omega) | exact rb_lss _ _ _ _ _ _ _)) ?_
      refine SmG.nil ?_
      refine nextS_normal ?_
      refine Sm.condT hF rfl ?_
      refine Sm.skip ?_
      refine nextS_normal ?_
      refine Sm.seq ?_
      refine Sm.block ?_
      refine Sm.drawG hF (by kernel_rfl) rfl 8 (by kernel_rfl) (by kernel_rfl) ?_
      simp only [List.take_succ_cons, List.take_zero, List.take_nil]
      refine Head.v hF rfl rfl rfl (opV_move rfl rfl) ?_
      refine Head.v hF rfl rfl rfl (opV_indexAddr rfl rfl rfl (by simp (disch := omega) only [go_sem, Nat.reduceEqDiff, iteP, u32D, h1, h2] <;> rfl)) ?_
      refine Head.v hF rfl rfl rfl (opV_load rfl rfl (by simp (disch := omega) only [go_sem, Nat.reduceEqDiff, iteP, u32D, h1, h2] <;> rfl)) ?_
      refine Head.v hF rfl rfl rfl (opV_move rfl rfl) ?_
      refine Head.v hF rfl rfl rfl (opV_indexAddr rfl rfl rfl (by simp (disch := omega) only [go_sem, Nat.reduceEqDiff, iteP, u32D, h1, h2] <;> rfl)) ?_
      refine Head.v hF rfl rfl rfl (opV_load rfl rfl (by simp (disch := omega) only [go_sem, Nat.reduceEqDiff, iteP, u32D, h1, h2] <;> rfl)) ?_
      refine Head.v hF rfl rfl rfl (opV_bin rfl rfl rfl (by first | exact rw_add _ _ _ _ _ _ | exact rb_add _ _ _ _ _ _ _)) ?_
      refine Head.v hF rfl rfl rfl (opV_indexAddr rfl rfl rfl (by simp (disch := omega) only [go_sem, Nat.reduceEqDiff, iteP, u32D, h1, h2] <;> rfl)) ?_
      refine Head.last ⟨rfl, ?_⟩
      simp only [List.drop_succ_cons, List.drop_zero, List.drop_nil, List.nil_append, List.cons_append]
      refine SmG.store hF rfl rfl rfl rfl rfl (by simp (disch := omega) only [go_sem, Nat.reduceEqDiff, iteP, u32D, h1, h2] <;> rfl) ?_
      refine SmG.nil ?_
      refine blockS_normal ?_
      refine nextS_normal ?_
      refine Sm.regionG hF rfl ?_
      refine SmG.v hF rfl rfl rfl (opV_move rfl rfl) ?_
      refine SmG.v hF rfl rfl rfl (opV_bin rfl rfl rfl (by first | exact rd_add _ _ _ _ _ (wrapI64 _ (by omega)) | exact rb_add _ _ _ _ _ _ _)) ?_
      refine SmG.v hF rfl rfl rfl (opV_assign rfl rfl) ?_
      refine SmG.nil ?_
      refine nextS_normal ?_
      exact ⟨⟨i + 1, by omega⟩, by show 8 - (i + 1) < 8 - i; omega, by exact St.le_of (by first | (simp [leE, look, constD] <;> omega) | (simp [leE, look, constD, hst] <;> omega)) (by simp only [leH, look, rep, reduceIte, Nat.reduceEqDiff, List.set_cons_zero, List.set_cons_succ, hst, and_self, and_true, and_false, false_and, if_true, if_false] <;> (repeat' first | rfl | constructor)) (by first | exact Nat.le_refl _ | (dsimp only; omega))⟩

    · obtain rfl : i = 8 := by omega
      have hall := addTo_all C L (by omega)
      rw [hcl] at hall
      have hll : (List.map u32D (addTo C L 8)).length = 8 := by rw [hall]; simp [hcl, hSl]
      refine Sm.seq ?_
      refine Sm.seq ?_
      refine Sm.regionG hF rfl ?_
      refine SmG.v hF rfl rfl rfl (opV_move rfl rfl) ?_
      refine SmG.v hF rfl rfl rfl (opV_bin rfl rfl rfl (by first | exact rd_lssT _ _ _ _ _ (by omega) | exact rd_lssF _ _ _ _ _ (by omega) | exact rb_lss _ _ _ _ _ _ _)) ?_
      refine SmG.nil ?_
      refine nextS_normal ?_
      refine Sm.condF hF rfl ?_
      refine Sm.exit ?_
      simp only [nextS, blockS, reduceIte, reduceCtorEq]
      refine Sm.seq ?_
      refine Sm.regionG hF rfl ?_
      refine SmG.v hF rfl rfl rfl (opV_load rfl rfl (by simp (disch := omega) only [go_sem, Nat.reduceEqDiff, iteP, u32D, hll] <;> rfl)) ?_
      refine SmG.store hF rfl rfl rfl rfl rfl (by simp (disch := omega) only [go_sem, Nat.reduceEqDiff, iteP, u32D, hll] <;> rfl) ?_
      refine SmG.nil ?_
      refine nextS_normal ?_
      refine Sm.ret ?_
      refine retQ_cell rfl rfl (by simp (disch := omega) only [go_sem, Nat.reduceEqDiff, iteP, hll] <;> rfl) ?_
      rw [hall, ← hpl]; exact D.le.refl _
end Go.Proofs.YtmindblfbijaaaaDoor
namespace Go.Proofs.YtmindblfbijaaaaDoor
open Go.RowKit
set_option maxRecDepth 100000
theorem conv_u8 {P : Program} {s d : TypeId} {td : TypeDesc} {k2 : IntKind} (z : Nat) (h1 : P.underlying s = some td) (h2 : P.underlying d = some (.int .u8)) : convS P s d (.d (.v (.int k2 (z : Int)))) = some (.d (byteD (UInt8.ofNat z))) := by
  simp only [convS, rc_int P .u8 z s d h1 h2 k2, Option.map_some, byteD]
  have : IntKind.u8.wrap (z : Int) = ((UInt8.ofNat z).toNat : Int) := by
    rw [IntKind.wrap_u8']
    simp
  rw [this]
theorem rowB_one (l : List UInt8) (b : UInt8) : List.map rowB l ++ [[byteD b]] = List.map rowB (l ++ [b]) := by simp [rowB]
theorem len_bytes (n i : Nat) (h : i < 8) : (Sha.lenBytes n).take i ++ [UInt8.ofNat (8 * n / 2 ^ (56 - 8 * i))] = (Sha.lenBytes n).take (i + 1) := (Sha.lenBytes_take n i h).symm
theorem shr64 (P : Program) (t : TypeId) (x y : Operand) (a n : Nat) {b : Int} (k2 : IntKind) (hb : b = (n : Int)) (hn : n ≤ 64) : reck P (do eqGuard .shr t x y (.int .u64 a) (.int k2 b); binOp .shr t (.int .u64 a) (.int k2 b)) = some (.int .u64 ((a / 2 ^ n : Nat) : Int)) := by
  rw [rb_shr P t x y .u64 a b k2 (by omega)]
  subst hb
  have : min ((n : Int).toNat) IntKind.u64.bits = n := by show min _ 64 = n; omega
  rw [this, Int.fdiv_eq_ediv_of_nonneg _ (Int.le_of_lt (Int.pow_pos (by omega)))]
  norm_cast

theorem blocks_D (b : List UInt8) (hb : b.length ≤ 1000000) (G : Nat → Option D) : CallsD Tryd.prog G 32 [bytesL b] (bytesL (Sha.padded b)) := by
  have hpad : Sha.padded b = b ++ [128] ++ List.replicate (Sha.zeros b.length) 0 ++ Sha.lenBytes b.length := rfl
  have hz : Sha.zeros b.length < 64 := by unfold Sha.zeros; omega
  have hzt := fun j => Sha.zeros_test b.length j
  have hze := Sha.zeros_end b.length
  generalize Sha.zeros b.length = z at hpad hz hzt hze
  refine CallsD.of Tryd.func32 rfl Tryd.ntmps32 (by simp) ?_; intro F hF; simp only [List.zipIdx_cons, List.zipIdx_nil, List.map_cons, List.map_nil, Nat.zero_add, Nat.reduceAdd]
  refine Sm.seq ?_
  refine Sm.regionG hF rfl ?_
  refine SmG.v hF rfl rfl rfl (opV_assign rfl rfl) ?_
  refine SmG.nil ?_
  refine nextS_normal ?_
  refine Sm.seq ?_
  refine Sm.regionG hF rfl ?_
  refine SmG.v hF rfl rfl rfl (opV_buildSlice rfl rfl (by simp (disch := omega) only [go_sem, Nat.reduceEqDiff, iteP, bytesL, rowB] <;> rfl)) ?_
  refine SmG.v hF rfl rfl rfl (opV_move rfl rfl) ?_
  -- stands at 8 of region 1: {"dst": 8, "op": "call", "a": [{"callee": ["builtin", "Callee.builtin Builtin.append"], "args": [["tmp", 6], ["tmp", 7]], "types": [22, 22]}], "ty": 2
  refine SmG.appendFresh hF elU8 rfl rfl rfl rfl rfl rfl (Or.inl rfl) (by simp only [List.length_map]; omega) (by simp only [List.length_map]; omega) ?_
  refine SmG.v hF rfl rfl rfl (opV_assign rfl rfl) ?_
  refine SmG.nil ?_
  refine nextS_normal ?_
  refine Sm.seq ?_
  refine Sm.regionG hF rfl ?_
  refine SmG.v hF rfl rfl rfl (opV_move rfl rfl) ?_
  refine SmG.v hF rfl rfl rfl (opV_buildSlice rfl rfl (by simp (disch := omega) only [go_sem, Nat.reduceEqDiff, iteP, bytesL, rowB] <;> rfl)) ?_
  -- stands at 11 of region 2: {"dst": 11, "op": "call", "a": [{"callee": ["builtin", "Callee.builtin Builtin.append"], "args": [["tmp", 9], ["tmp", 10]], "types": [22, 22]}], "ty":
  refine SmG.appendOwn hF elU8 rfl rfl rfl rfl rfl rfl rfl (by first | rfl | (simp; done) | (simp; omega)) (Or.inl rfl) (by (repeat' first | exact freeH_nil _ | refine freeH_same ?_ | refine freeH_cons ?_ (free_dB _ _ _) | refine freeH_cons ?_ (free_dB _ _ [_]) | refine freeH_cons ?_ (free_row (by rfl)))) ?_ ?_ ?_; rotate_left; rotate_left; simp only [killV, Pk.v, V.free, rep, bne_self_eq_false, Nat.reduceAdd, Nat.reduceBNe, Nat.reduceBEq, Nat.reduceEqDiff, reduceIte, Bool.false_eq_true]
  rotate_left
  · simp only [List.length_map, List.length_cons, List.length_nil]; omega
  · simp only [List.length_map, List.length_cons, List.length_nil]; omega
  refine SmG.v hF rfl rfl rfl (opV_assign rfl rfl) ?_
  refine SmG.nil ?_
  refine nextS_normal ?_
  refine Sm.seq ?_
  refine Sm.block ?_
  refine Sm.loop (ι := {j : Nat // j ≤ z}) (fun j => ⟨[(0, .d (bytesL b)), (3, .sref 0 0 ((b ++ [128] ++ List.replicate j.1 0).map rowB).length)], [(0, dB 1 ((b ++ [128] ++ List.replicate j.1 0).map rowB))], 1⟩) (fun j => z - j.1) (⟨0, by omega⟩) ?_ ?_
  · have h0 : List.map rowB b ++ [[D.v (.int .u8 128)]] = List.map rowB (b ++ [128] ++ List.replicate 0 0) := by
      rw [List.replicate_zero, List.append_nil, ← rowB_one]; rfl
    exact St.le_of (by first | (simp [leE, look, constD] <;> omega) | (simp [leE, look, constD, h0] <;> omega)) (by simp only [leH, look, rep, reduceIte, Nat.reduceEqDiff, List.set_cons_zero, List.set_cons_succ, h0, and_self, and_true, and_false, false_and, if_true, if_false] <;> (repeat' first | rfl | constructor)) (by first | exact Nat.le_refl _ | (dsimp only; omega))
  rintro ⟨j, hj⟩
  simp only

  by_cases hlt : j < z
  · have hzj := hzt j hlt
    have hrow : List.map rowB (b ++ [128] ++ List.replicate j 0) ++ [[D.v (.int .u8 0)]] = List.map rowB (b ++ [128] ++ List.replicate (j + 1) 0) := by
      rw [List.replicate_succ', ← List.append_assoc, ← rowB_one]; rfl

    refine Sm.seq ?_
    refine Sm.seq ?_
    refine Sm.regionG hF rfl ?_
    refine SmG.v hF rfl rfl rfl (opV_move rfl rfl) ?_
    refine SmG.v hF rfl rfl rfl (opV_len rfl rfl (by simp (disch := omega) only [go_sem, Nat.reduceEqDiff, iteP, bytesL, rowB, List.length_append, List.length_cons, List.length_nil, List.length_replicate] <;> rfl)) ?_
    refine SmG.v hF rfl rfl rfl (opV_bin rfl rfl rfl (by first | exact rd_add _ _ _ _ _ (wrapI64 _ (by omega)) | exact rb_add _ _ _ _ _ _ _)) ?_
    refine SmG.v hF rfl rfl rfl (opV_bin rfl rfl rfl (by first | exact rd_rem _ _ _ _ _ (by omega) (by omega) | exact rb_rem _ _ _ _ _ _ _ (by omega))) ?_
    refine SmG.v hF rfl rfl rfl (opV_bin rfl rfl rfl (by first | exact rd_neqT _ _ _ _ _ (by omega) | exact rd_neqF _ _ _ _ _ (by omega) | exact rb_neq _ _ _ _ _ _ _)) ?_
    refine SmG.nil ?_
    refine nextS_normal ?_
    refine Sm.condT hF rfl ?_
    refine Sm.skip ?_
    refine nextS_normal ?_
    refine Sm.block ?_
    refine Sm.regionG hF rfl ?_
    refine SmG.v hF rfl rfl rfl (opV_move rfl rfl) ?_
    refine SmG.v hF rfl rfl rfl (opV_buildSlice rfl rfl (by simp (disch := omega) only [go_sem, Nat.reduceEqDiff, iteP, bytesL, rowB, List.length_append, List.length_cons, List.length_nil, List.length_replicate] <;> rfl)) ?_
    -- stands at 19 of region 4: {"dst": 19, "op": "call", "a": [{"callee": ["builtin", "Callee.builtin Builtin.append"], "args": [["tmp", 17], ["tmp", 18]], "types": [22, 22]}], "ty"
    refine SmG.appendOwn hF elU8 rfl rfl rfl rfl rfl rfl rfl (by first | rfl | (simp; done) | (simp; omega)) (Or.inl rfl) (by (repeat' first | exact freeH_nil _ | refine freeH_same ?_ | refine freeH_cons ?_ (free_dB _ _ _) | refine freeH_cons ?_ (free_dB _ _ [_]) | refine freeH_cons ?_ (free_row (by rfl)))) ?_ ?_ ?_; rotate_left; rotate_left; simp only [killV, Pk.v, V.free, rep, bne_self_eq_false, Nat.reduceAdd, Nat.reduceBNe, Nat.reduceBEq, Nat.reduceEqDiff, reduceIte, Bool.false_eq_true]
    rotate_left
    · simp only [List.length_map, List.length_append, List.length_cons, List.length_nil, List.length_replicate]; omega
    · simp only [List.length_map, List.length_append, List.length_cons, List.length_nil, List.length_replicate]; omega
    refine SmG.v hF rfl rfl rfl (opV_assign rfl rfl) ?_
    refine SmG.nil ?_
    refine blockS_normal ?_
    refine nextS_normal ?_
    exact ⟨⟨j + 1, by omega⟩, by show z - (j + 1) < z - j; omega, by exact St.le_of (by first | (simp [leE, look, constD] <;> omega) | (simp [leE, look, constD, hrow] <;> omega)) (by simp only [leH, look, rep, reduceIte, Nat.reduceEqDiff, List.set_cons_zero, List.set_cons_succ, hrow, and_self, and_true, and_false, false_and, if_true, if_false] <;> (repeat' first | rfl | constructor)) (by first | exact Nat.le_refl _ | (dsimp only; omega))⟩

  · obtain rfl : j = z := by omega
    refine Sm.seq ?_
    refine Sm.seq ?_
    refine Sm.regionG hF rfl ?_
    refine SmG.v hF rfl rfl rfl (opV_move rfl rfl) ?_
    refine SmG.v hF rfl rfl rfl (opV_len rfl rfl (by simp (disch := omega) only [go_sem, Nat.reduceEqDiff, iteP, bytesL, rowB, List.length_append, List.length_cons, List.length_nil, List.length_replicate] <;> rfl)) ?_
    refine SmG.v hF rfl rfl rfl (opV_bin rfl rfl rfl (by first | exact rd_add _ _ _ _ _ (wrapI64 _ (by omega)) | exact rb_add _ _ _ _ _ _ _)) ?_
    refine SmG.v hF rfl rfl rfl (opV_bin rfl rfl rfl (by first | exact rd_rem _ _ _ _ _ (by omega) (by omega) | exact rb_rem _ _ _ _ _ _ _ (by omega))) ?_
    refine SmG.v hF rfl rfl rfl (opV_bin rfl rfl rfl (by first | exact rd_neqT _ _ _ _ _ (by omega) | exact rd_neqF _ _ _ _ _ (by omega) | exact rb_neq _ _ _ _ _ _ _)) ?_
    refine SmG.nil ?_
    refine nextS_normal ?_
    refine Sm.condF hF rfl ?_
    refine Sm.exit ?_
    simp only [nextS, blockS, reduceIte, reduceCtorEq]
    refine Sm.seq ?_
    refine Sm.regionG hF rfl ?_
    refine SmG.v hF rfl rfl rfl (opV_move rfl rfl) ?_
    refine SmG.v hF rfl rfl rfl (opV_len rfl rfl (by simp (disch := omega) only [go_sem, Nat.reduceEqDiff, iteP, bytesL, rowB, List.length_append, List.length_cons, List.length_nil, List.length_replicate] <;> rfl)) ?_
    refine SmG.v hF rfl rfl rfl (opV_conv rfl rfl (by first | exact convS_int rfl rfl (wrapU64 _ (by omega)) | (simp (disch := omega) only [go_sem, bytesL, rowB, List.length_append, List.length_cons, List.length_nil, List.length_replicate] <;> rfl))) ?_
    refine SmG.v hF rfl rfl rfl (opV_bin rfl rfl rfl (by first | exact rd_mul _ _ _ _ _ (wrapU64 _ (by omega)) | exact rb_mul _ _ _ _ _ _ _)) ?_
    refine SmG.v hF rfl rfl rfl (opV_assign rfl rfl) ?_
    refine SmG.nil ?_
    refine nextS_normal ?_
    refine Sm.seq ?_
    refine Sm.seq ?_
    refine Sm.regionG hF rfl ?_
    refine SmG.v hF rfl rfl rfl (opV_assign rfl rfl) ?_
    refine SmG.nil ?_
    refine nextS_normal ?_
    refine Sm.block ?_
    refine Sm.loop (ι := {i : Nat // i ≤ 8}) (fun i => ⟨[(3, .sref 0 0 ((b ++ [128] ++ List.replicate j 0 ++ (Sha.lenBytes b.length).take i.1).map rowB).length), (4, .d (.v (.int .u64 ((8 * b.length : Nat) : Int)))), (5, .d (.v (.int .i64 i.1)))], [(0, dB 1 ((b ++ [128] ++ List.replicate j 0 ++ (Sha.lenBytes b.length).take i.1).map rowB))], 1⟩) (fun i => 8 - i.1) (⟨0, by omega⟩) ?_ ?_
    · exact St.le_of (by first | (simp [leE, look, constD] <;> omega) | (simp [leE, look, constD, List.take_zero, List.append_nil] <;> omega)) (by simp only [leH, look, rep, reduceIte, Nat.reduceEqDiff, List.set_cons_zero, List.set_cons_succ, List.take_zero, List.append_nil, and_self, and_true, and_false, false_and, if_true, if_false] <;> (repeat' first | rfl | constructor)) (by first | exact Nat.le_refl _ | (dsimp only; omega))
    rintro ⟨i, hi⟩
    simp only

    have hll : (Sha.lenBytes b.length).length = 8 := by simp [Sha.lenBytes]
    by_cases hlt : i < 8
    · have hrow : List.map rowB (b ++ [128] ++ List.replicate j 0 ++ (Sha.lenBytes b.length).take i) ++ [[D.v (.int .u8 ((UInt8.ofNat (8 * b.length / 2 ^ (56 - 8 * i))).toNat : Int))]] = List.map rowB (b ++ [128] ++ List.replicate j 0 ++ (Sha.lenBytes b.length).take (i + 1)) := by
        show _ ++ [[byteD _]] = _
        rw [rowB_one, List.append_assoc, len_bytes _ _ hlt]

      refine Sm.seq ?_
      refine Sm.seq ?_
      refine Sm.regionG hF rfl ?_
      refine SmG.v hF rfl rfl rfl (opV_move rfl rfl) ?_
      refine SmG.v hF rfl rfl rfl (opV_bin rfl rfl rfl (by first | exact rd_lssT _ _ _ _ _ (by omega) | exact rd_lssF _ _ _ _ _ (by omega) | exact rb_lss _ _ _ _ _ _ _)) ?_
      refine SmG.nil ?_
      refine nextS_normal ?_
      refine Sm.condT hF rfl ?_
      refine Sm.skip ?_
      refine nextS_normal ?_
      refine Sm.seq ?_
      refine Sm.block ?_
      refine Sm.regionG hF rfl ?_
      refine SmG.v hF rfl rfl rfl (opV_move rfl rfl) ?_
      refine SmG.v hF rfl rfl rfl (opV_move rfl rfl) ?_
      refine SmG.v hF rfl rfl rfl (opV_move rfl rfl) ?_
      refine SmG.v hF rfl rfl rfl (opV_bin rfl rfl rfl (by first | exact rd_mul _ _ _ _ _ (wrapI64 _ (by omega)) | exact rb_mul _ _ _ _ _ _ _)) ?_
      refine SmG.v hF rfl rfl rfl (opV_bin rfl rfl rfl (by first | exact rd_sub _ _ _ _ _ (wrapI64 _ (by omega)) | exact rb_sub _ _ _ _ _ _ _)) ?_
      refine SmG.v hF rfl rfl rfl (opV_bin rfl rfl rfl (shr64 _ _ _ _ (8 * b.length) (56 - 8 * i) _ (by omega) (by omega))) ?_
      refine SmG.v hF rfl rfl rfl (opV_conv rfl rfl (conv_u8 _ Tryd.underlying55 Tryd.underlying5)) ?_
      refine SmG.v hF rfl rfl rfl (opV_buildSlice rfl rfl (by simp (disch := omega) only [go_sem, Nat.reduceEqDiff, iteP, bytesL, rowB, List.length_append, List.length_cons, List.length_nil, List.length_replicate] <;> rfl)) ?_
      -- stands at 36 of region 9: {"dst": 36, "op": "call", "a": [{"callee": ["builtin", "Callee.builtin Builtin.append"], "args": [["tmp", 28], ["tmp", 35]], "types": [22, 22]}], "ty"
      refine SmG.appendOwn hF elU8 rfl rfl rfl rfl rfl rfl rfl (by first | rfl | (simp; done) | (simp; omega)) (Or.inl rfl) (by (repeat' first | exact freeH_nil _ | refine freeH_same ?_ | refine freeH_cons ?_ (free_dB _ _ _) | refine freeH_cons ?_ (free_dB _ _ [_]) | refine freeH_cons ?_ (free_row (by rfl)))) ?_ ?_ ?_; rotate_left; rotate_left; simp only [killV, Pk.v, V.free, rep, bne_self_eq_false, Nat.reduceAdd, Nat.reduceBNe, Nat.reduceBEq, Nat.reduceEqDiff, reduceIte, Bool.false_eq_true]
      rotate_left
      · simp only [List.length_map, List.length_append, List.length_cons, List.length_nil, List.length_replicate, List.length_take]; omega
      · simp only [List.length_map, List.length_append, List.length_cons, List.length_nil, List.length_replicate, List.length_take]; omega
      refine SmG.v hF rfl rfl rfl (opV_assign rfl rfl) ?_
      refine SmG.nil ?_
      refine blockS_normal ?_
      refine nextS_normal ?_
      refine Sm.regionG hF rfl ?_
      refine SmG.v hF rfl rfl rfl (opV_move rfl rfl) ?_
      refine SmG.v hF rfl rfl rfl (opV_bin rfl rfl rfl (by first | exact rd_add _ _ _ _ _ (wrapI64 _ (by omega)) | exact rb_add _ _ _ _ _ _ _)) ?_
      refine SmG.v hF rfl rfl rfl (opV_assign rfl rfl) ?_
      refine SmG.nil ?_
      refine nextS_normal ?_
      exact ⟨⟨i + 1, by omega⟩, by show 8 - (i + 1) < 8 - i; omega, by exact St.le_of (by first | (simp [leE, look, constD] <;> omega) | (simp [leE, look, constD, hrow] <;> omega)) (by simp only [leH, look, rep, reduceIte, Nat.reduceEqDiff, List.set_cons_zero, List.set_cons_succ, hrow, and_self, and_true, and_false, false_and, if_true, if_false] <;> (repeat' first | rfl | constructor)) (by first | exact Nat.le_refl _ | (dsimp only; omega))⟩

    · obtain rfl : i = 8 := by omega
      refine Sm.seq ?_
      refine Sm.seq ?_
      refine Sm.regionG hF rfl ?_
      refine SmG.v hF rfl rfl rfl (opV_move rfl rfl) ?_
      refine SmG.v hF rfl rfl rfl (opV_bin rfl rfl rfl (by first | exact rd_lssT _ _ _ _ _ (by omega) | exact rd_lssF _ _ _ _ _ (by omega) | exact rb_lss _ _ _ _ _ _ _)) ?_
      refine SmG.nil ?_
      refine nextS_normal ?_
      refine Sm.condF hF rfl ?_
      refine Sm.freeze (l := 0) _ rfl ?_
      simp only [Pk.v, frzE, frzV, dropH, reduceIte, Nat.reduceAdd, Nat.zero_add, List.length_map, List.length_append, Nat.le_refl, true_and, and_self, if_true, Nat.reduceEqDiff, true_and]
      refine Sm.exit ?_
      simp only [nextS, blockS, reduceIte, reduceCtorEq]
      refine Sm.seq ?_
      refine Sm.regionG hF rfl ?_
      refine SmG.v hF rfl rfl rfl (opV_move rfl rfl) ?_
      refine SmG.v hF rfl rfl rfl (opV_assign rfl rfl) ?_
      refine SmG.nil ?_
      refine nextS_normal ?_
      refine Sm.ret ?_
      refine ⟨_, rfl, ?_⟩; dsimp only
      rw [List.take_of_length_le (by omega), ← hpad]; exact D.le.refl _
theorem chunk_map (all : List UInt8) (j : Nat) : List.drop (64 * j) (List.map rowB (List.take (64 * j + 64) all)) = List.map rowB ((all.drop (64 * j)).take 64) := by
  rw [← List.map_drop, List.drop_take]; congr 2; omega
theorem out_len (S : Sha.S8) (k : Nat) (h : k ≤ 32) : ((Sha.out S).take k ++ List.replicate (32 - k) 0).length = 32 := by
  simp [Sha.out_length]; omega

theorem refSum_D (b : List UInt8) (hb : b.length ≤ 1000000) (G : Nat → Option D) : CallsD Tryd.prog G 13 [bytesL b] (sumD (Sha.sum b)) := by
  have hmod := Sha.padded_mod b
  have hplen := Sha.padded_length b
  have hz : Sha.zeros b.length < 64 := by unfold Sha.zeros; omega
  have hS : Sha.sum b = Sha.out (Sha.over (Sha.padded b) ((Sha.padded b).length / 64)) := rfl
  refine CallsD.of Tryd.func13 rfl Tryd.ntmps13 (by simp) ?_; intro F hF; simp only [List.zipIdx_cons, List.zipIdx_nil, List.map_cons, List.map_nil, Nat.zero_add, Nat.reduceAdd]
  refine Sm.seq ?_
  refine Sm.regionG hF rfl ?_
  refine SmG.new hF rfl rfl rfl (opS_alloc rfl al28) ?_
  refine SmG.nil ?_
  refine nextS_normal ?_
  refine Sm.seq ?_
  refine Sm.regionG hF rfl ?_
  refine SmG.v hF rfl rfl rfl (opV_move rfl rfl) ?_
  refine SmG.call hF rfl rfl (by kernel_rfl) rfl rfl rfl (blocks_D b hb G) ?_
  refine SmG.v hF rfl rfl rfl (opV_assign rfl rfl) ?_
  refine SmG.nil ?_
  refine nextS_normal ?_
  refine Sm.seq ?_
  refine Sm.regionG hF rfl ?_
  refine SmG.call hF rfl rfl (by kernel_rfl) rfl rfl rfl (first_D G) ?_
  refine SmG.new hF rfl rfl rfl (opS_alloc rfl al57) ?_
  refine SmG.store hF rfl rfl rfl rfl rfl (by simp (disch := omega) only [go_sem, Nat.reduceEqDiff, iteP, u32D, sumD] <;> rfl) ?_
  refine SmG.nil ?_
  refine nextS_normal ?_
  refine Sm.seq ?_
  refine Sm.seq ?_
  refine Sm.regionG hF rfl ?_
  refine SmG.v hF rfl rfl rfl (opV_assign rfl rfl) ?_
  refine SmG.nil ?_
  refine nextS_normal ?_
  refine Sm.block ?_
  generalize Sha.padded b = all at hmod hplen hS ⊢
  generalize hm : all.length / 64 = m at hmod hS
  refine Sm.loop (ι := {j : Nat // j ≤ m}) (fun j => ⟨[(2, .ref 0 0 0), (3, .d (bytesL all)), (4, .ref 1 0 0), (5, .d (.v (.int .i64 ((64 * j.1 : Nat) : Int))))], [(1, dW 8 (Sha.over all j.1).list), (0, dB 32 [rowS (List.replicate 32 0)])], 2⟩) (fun j => m - j.1) (⟨0, by omega⟩) ?_ ?_
  · exact St.le_of (by first | (simp [leE, look, constD] <;> omega) | (simp [leE, look, constD, true_and] <;> omega)) (by simp only [leH, look, rep, reduceIte, Nat.reduceEqDiff, List.set_cons_zero, List.set_cons_succ, true_and, and_self, and_true, and_false, false_and, if_true, if_false] <;> (repeat' first | rfl | constructor)) (by first | exact Nat.le_refl _ | (dsimp only; omega))
  rintro ⟨j, hj⟩
  simp only

  by_cases hlt : j < m
  · have c1 := step_D (Sha.over all j) ((all.drop (64 * j)).take 64) (by rw [List.length_take, List.length_drop]; omega) G
    have hcm := chunk_map all j
    have hle : 64 * j ≤ 64 * j + 64 := by omega
    have hle2 : 64 * j + 64 ≤ all.length := by omega
    have hcast : (((64 * j : Nat) : Int) + 64).toNat = 64 * j + 64 := by omega
    have hov : Sha.over all (j + 1) = Sha.after (Sha.over all j) ((all.drop (64 * j)).take 64) := rfl
    have hl8 : (Sha.over all j).list.length = 8 := rfl

    refine Sm.seq ?_
    refine Sm.seq ?_
    refine Sm.regionG hF rfl ?_
    refine SmG.v hF rfl rfl rfl (opV_move rfl rfl) ?_
    refine SmG.v hF rfl rfl rfl (opV_move rfl rfl) ?_
    refine SmG.v hF rfl rfl rfl (opV_len rfl rfl (by simp (disch := omega) only [go_sem, Nat.reduceEqDiff, iteP, bytesL, hcm, hcast, hle, hle2, take_map', hl8] <;> rfl)) ?_
    refine SmG.v hF rfl rfl rfl (opV_bin rfl rfl rfl (by first | exact rd_lssT _ _ _ _ _ (by omega) | exact rd_lssF _ _ _ _ _ (by omega) | exact rb_lss _ _ _ _ _ _ _)) ?_
    refine SmG.nil ?_
    refine nextS_normal ?_
    refine Sm.condT hF rfl ?_
    refine Sm.skip ?_
    refine nextS_normal ?_
    refine Sm.seq ?_
    refine Sm.block ?_
    refine Sm.drawG hF (by kernel_rfl) rfl 7 (by kernel_rfl) (by kernel_rfl) ?_
    simp only [List.take_succ_cons, List.take_zero, List.take_nil]
    refine Head.v hF rfl rfl rfl (opV_load rfl rfl (by simp (disch := omega) only [go_sem, Nat.reduceEqDiff, iteP, bytesL, hcm, hcast, hle, hle2, take_map', hl8] <;> rfl)) ?_
    refine Head.v hF rfl rfl rfl (opV_move rfl rfl) ?_
    refine Head.v hF rfl rfl rfl (opV_move rfl rfl) ?_
    refine Head.v hF rfl rfl rfl (opV_move rfl rfl) ?_
    refine Head.v hF rfl rfl rfl (opV_bin rfl rfl rfl (by first | exact rd_add _ _ _ _ _ (wrapI64 _ (by omega)) | exact rb_add _ _ _ _ _ _ _)) ?_
    refine Head.v hF rfl rfl rfl (opV_slice rfl rfl rfl rfl rfl (by simp (disch := omega) only [go_sem, Nat.reduceEqDiff, iteP, bytesL, hcm, hcast, hle, hle2, take_map', hl8] <;> rfl)) ?_
    refine Head.c hF rfl rfl (by kernel_rfl) rfl rfl rfl (c1) ?_
    refine Head.last ⟨rfl, ?_⟩
    simp only [List.drop_succ_cons, List.drop_zero, List.drop_nil, List.nil_append, List.cons_append]
    refine SmG.store hF rfl rfl rfl rfl rfl (by simp (disch := omega) only [go_sem, Nat.reduceEqDiff, iteP, bytesL, hcm, hcast, hle, hle2, take_map', hl8] <;> rfl) ?_
    refine SmG.nil ?_
    refine blockS_normal ?_
    refine nextS_normal ?_
    refine Sm.regionG hF rfl ?_
    refine SmG.v hF rfl rfl rfl (opV_move rfl rfl) ?_
    refine SmG.v hF rfl rfl rfl (opV_bin rfl rfl rfl (by first | exact rd_add _ _ _ _ _ (wrapI64 _ (by omega)) | exact rb_add _ _ _ _ _ _ _)) ?_
    refine SmG.v hF rfl rfl rfl (opV_assign rfl rfl) ?_
    refine SmG.nil ?_
    refine nextS_normal ?_
    exact ⟨⟨j + 1, by omega⟩, by show m - (j + 1) < m - j; omega, by exact St.le_of (by first | (simp [leE, look, constD] <;> omega) | (simp [leE, look, constD, hov] <;> omega)) (by simp only [leH, look, rep, reduceIte, Nat.reduceEqDiff, List.set_cons_zero, List.set_cons_succ, hov, and_self, and_true, and_false, false_and, if_true, if_false] <;> (repeat' first | rfl | constructor)) (by first | exact Nat.le_refl _ | (dsimp only; omega))⟩

  · obtain rfl : j = m := by omega
    generalize Sha.over all j = S at hS ⊢
    refine Sm.seq ?_
    refine Sm.seq ?_
    refine Sm.regionG hF rfl ?_
    refine SmG.v hF rfl rfl rfl (opV_move rfl rfl) ?_
    refine SmG.v hF rfl rfl rfl (opV_move rfl rfl) ?_
    refine SmG.v hF rfl rfl rfl (opV_len rfl rfl (by simp (disch := omega) only [go_sem, Nat.reduceEqDiff, iteP, bytesL] <;> rfl)) ?_
    refine SmG.v hF rfl rfl rfl (opV_bin rfl rfl rfl (by first | exact rd_lssT _ _ _ _ _ (by omega) | exact rd_lssF _ _ _ _ _ (by omega) | exact rb_lss _ _ _ _ _ _ _)) ?_
    refine SmG.nil ?_
    refine nextS_normal ?_
    refine Sm.condF hF rfl ?_
    refine Sm.exit ?_
    simp only [nextS, blockS, reduceIte, reduceCtorEq]
    refine Sm.seq ?_
    refine Sm.regionG hF rfl ?_
    refine SmG.v hF rfl rfl rfl (opV_buildA rfl Tryd.underlying28 rfl bz28) ?_
    refine SmG.new hF rfl rfl rfl (opS_alloc rfl al28) ?_
    refine SmG.store hF rfl rfl rfl rfl rfl (by simp (disch := omega) only [go_sem, Nat.reduceEqDiff, iteP, bytesL] <;> rfl) ?_
    refine SmG.nil ?_
    refine nextS_normal ?_
    refine Sm.seq ?_
    refine Sm.seq ?_
    refine Sm.regionG hF rfl ?_
    refine SmG.v hF rfl rfl rfl (opV_assign rfl rfl) ?_
    refine SmG.nil ?_
    refine nextS_normal ?_
    refine Sm.block ?_
    refine Sm.loop (ι := {k : Nat // k ≤ 32}) (fun k => ⟨[(2, .ref 0 0 0), (4, .ref 1 0 0), (6, .ref 2 0 0), (7, .d (.v (.int .i64 k.1)))], [(2, dB 32 [rowS ((Sha.out S).take k.1 ++ List.replicate (32 - k.1) 0)]), (1, dW 8 S.list), (0, dB 32 [rowS (List.replicate 32 0)])], 3⟩) (fun k => 32 - k.1) (⟨0, by omega⟩) ?_ ?_
    · exact St.le_of (by first | (simp [leE, look, constD] <;> omega) | (simp [leE, look, constD, List.take_zero, List.nil_append] <;> omega)) (by simp only [leH, look, rep, reduceIte, Nat.reduceEqDiff, List.set_cons_zero, List.set_cons_succ, List.take_zero, List.nil_append, and_self, and_true, and_false, false_and, if_true, if_false] <;> (repeat' first | rfl | constructor)) (by first | exact Nat.le_refl _ | (dsimp only; omega))
    rintro ⟨k, hk⟩
    simp only

    have hl8 : S.list.length = 8 := rfl
    by_cases hlt : k < 32
    · have hg := get_word S.list (k / 4) (by omega)
      have hset := Sha.out_set S k hlt
      have hsh : ∀ (x : UInt32) (n : Nat), (Sha.shr x n).toNat = x.toNat / 2 ^ n := fun x n => Nat.mod_eq_of_lt (Nat.lt_of_le_of_lt (Nat.div_le_self _ _) x.toNat_lt)
      generalize S.list.getD (k / 4) 0 = x at hg hset
      have hcast : ((k : Int) / 4).toNat = k / 4 := by omega
      have hst : (List.map V.d (rowS ((Sha.out S).take k ++ List.replicate (32 - k) 0))).set k (.d (.v (.int .u8 ((UInt8.ofNat (Sha.shr x (24 - 8 * (k % 4))).toNat).toNat : Int)))) = List.map V.d (rowS ((Sha.out S).take (k + 1) ++ List.replicate (32 - (k + 1)) 0)) := by
        rw [← hset, hsh]
        simp only [rowS, List.map_set, byteD]

      refine Sm.seq ?_
      refine Sm.seq ?_
      refine Sm.regionG hF rfl ?_
      refine SmG.v hF rfl rfl rfl (opV_move rfl rfl) ?_
      refine SmG.v hF rfl rfl rfl (opV_bin rfl rfl rfl (by first | exact rd_lssT _ _ _ _ _ (by omega) | exact rd_lssF _ _ _ _ _ (by omega) | exact rb_lss _ _ _ _ _ _ _)) ?_
      refine SmG.nil ?_
      refine nextS_normal ?_
      refine Sm.condT hF rfl ?_
      refine Sm.skip ?_
      refine nextS_normal ?_
      refine Sm.seq ?_
      refine Sm.block ?_
      refine Sm.regionG hF rfl ?_
      refine SmG.v hF rfl rfl rfl (opV_move rfl rfl) ?_
      refine SmG.v hF rfl rfl rfl (opV_move rfl rfl) ?_
      refine SmG.v hF rfl rfl rfl (opV_bin rfl rfl rfl (by first | exact rd_quo _ _ _ _ (by omega) (by omega) | exact rb_quo _ _ _ _ _ _ _ (by omega))) ?_
      refine SmG.v hF rfl rfl rfl (opV_indexAddr rfl rfl rfl (by simp (disch := omega) only [go_sem, Nat.reduceEqDiff, iteP, u32D, hg, hcast, byteD, hl8] <;> rfl)) ?_
      refine SmG.v hF rfl rfl rfl (opV_load rfl rfl (by simp (disch := omega) only [go_sem, Nat.reduceEqDiff, iteP, u32D, hg, hcast, byteD, hl8] <;> rfl)) ?_
      refine SmG.v hF rfl rfl rfl (opV_move rfl rfl) ?_
      refine SmG.v hF rfl rfl rfl (opV_bin rfl rfl rfl (by first | exact rd_rem _ _ _ _ _ (by omega) (by omega) | exact rb_rem _ _ _ _ _ _ _ (by omega))) ?_
      refine SmG.v hF rfl rfl rfl (opV_bin rfl rfl rfl (by first | exact rd_mul _ _ _ _ _ (wrapI64 _ (by omega)) | exact rb_mul _ _ _ _ _ _ _)) ?_
      refine SmG.v hF rfl rfl rfl (opV_bin rfl rfl rfl (by first | exact rd_sub _ _ _ _ _ (wrapI64 _ (by omega)) | exact rb_sub _ _ _ _ _ _ _)) ?_
      refine SmG.v hF rfl rfl rfl (opV_bin rfl rfl rfl (rw_shr _ _ _ _ (24 - 8 * (k % 4)) _ (by omega) (by omega) x)) ?_
      refine SmG.v hF rfl rfl rfl (opV_conv rfl rfl (conv_u8 _ Tryd.underlying56 Tryd.underlying5)) ?_
      refine SmG.v hF rfl rfl rfl (opV_indexAddr rfl rfl rfl (by simp (disch := omega) only [go_sem, Nat.reduceEqDiff, iteP, u32D, hg, hcast, byteD, hl8] <;> rfl)) ?_
      refine SmG.store hF rfl rfl rfl rfl rfl (by simp (disch := omega) only [go_sem, Nat.reduceEqDiff, iteP, u32D, hg, hcast, byteD, hl8] <;> rfl) ?_
      refine SmG.nil ?_
      refine blockS_normal ?_
      refine nextS_normal ?_
      refine Sm.regionG hF rfl ?_
      refine SmG.v hF rfl rfl rfl (opV_move rfl rfl) ?_
      refine SmG.v hF rfl rfl rfl (opV_bin rfl rfl rfl (by first | exact rd_add _ _ _ _ _ (wrapI64 _ (by omega)) | exact rb_add _ _ _ _ _ _ _)) ?_
      refine SmG.v hF rfl rfl rfl (opV_assign rfl rfl) ?_
      refine SmG.nil ?_
      refine nextS_normal ?_
      exact ⟨⟨k + 1, by omega⟩, by show 32 - (k + 1) < 32 - k; omega, by exact St.le_of (by first | (simp [leE, look, constD] <;> omega) | (simp [leE, look, constD, hst] <;> omega)) (by simp only [leH, look, rep, reduceIte, Nat.reduceEqDiff, List.set_cons_zero, List.set_cons_succ, hst, and_self, and_true, and_false, false_and, if_true, if_false] <;> (repeat' first | rfl | constructor)) (by first | exact Nat.le_refl _ | (dsimp only; omega))⟩

    · obtain rfl : k = 32 := by omega
      have hll : (rowS ((Sha.out S).take 32 ++ List.replicate (32 - 32) 0)).length = 32 := by rw [rowS, List.length_map, out_len S 32 (by omega)]
      refine Sm.seq ?_
      refine Sm.seq ?_
      refine Sm.regionG hF rfl ?_
      refine SmG.v hF rfl rfl rfl (opV_move rfl rfl) ?_
      refine SmG.v hF rfl rfl rfl (opV_bin rfl rfl rfl (by first | exact rd_lssT _ _ _ _ _ (by omega) | exact rd_lssF _ _ _ _ _ (by omega) | exact rb_lss _ _ _ _ _ _ _)) ?_
      refine SmG.nil ?_
      refine nextS_normal ?_
      refine Sm.condF hF rfl ?_
      refine Sm.exit ?_
      simp only [nextS, blockS, reduceIte, reduceCtorEq]
      refine Sm.seq ?_
      refine Sm.regionG hF rfl ?_
      refine SmG.v hF rfl rfl rfl (opV_load rfl rfl (by simp (disch := omega) only [go_sem, Nat.reduceEqDiff, iteP, hll] <;> rfl)) ?_
      refine SmG.store hF rfl rfl rfl rfl rfl (by simp (disch := omega) only [go_sem, Nat.reduceEqDiff, iteP, hll] <;> rfl) ?_
      refine SmG.nil ?_
      refine nextS_normal ?_
      refine Sm.ret ?_
      refine retQ_cell rfl rfl (by simp (disch := omega) only [go_sem, Nat.reduceEqDiff, iteP, hll] <;> rfl) ?_
      rw [hS, List.take_of_length_le (by rw [Sha.out_length]; omega), List.append_nil]
      exact D.le.refl _
end Go.Proofs.YtmindblfbijaaaaDoor
namespace Go.Proofs.YtmindblfbijaaaaDoor.Sha
theorem climb_len_eq (b b' : List UInt8) : ∀ (p q : List (List UInt8)) (n i : Nat), (climb b p n i).2 = true → (climb b' q n i).2 = true → p.length = q.length := by
  intro p
  induction p with
  | nil =>
    intro q n i h1 h2
    cases q with
    | nil => rfl
    | cons y s => simp only [climb, beq_iff_eq] at h1; subst h1; simp [climb] at h2
  | cons x r ih =>
    intro q n i h1 h2
    cases q with
    | nil => simp only [climb, beq_iff_eq] at h2; subst h2; simp [climb] at h1
    | cons y s =>
      simp only [climb] at h1 h2
      by_cases hn : n = 1
      · simp [hn] at h1
      · rw [if_neg hn] at h1 h2
        by_cases hi : i < cut n
        · rw [if_pos hi] at h1 h2
          rw [List.length_cons, List.length_cons, ih s _ _ h1 h2]
        · rw [if_neg hi] at h1 h2
          rw [List.length_cons, List.length_cons, ih s _ _ h1 h2]
/-- A proof of another length is refused. -/
theorem check_len {l : List (List UInt8)} {i : Nat} {b : List UInt8} (h : l[i]? = some b) (r b' : List UInt8) (q : List (List UInt8)) (hq : q.length ≠ (proof l i).length) : check r l.length i b' q = false := by
  unfold check
  split
  · rfl
  · have hp := climb_path b l.length l i rfl h
    have h2 : (climb b' q.reverse (l.length : Int).toNat (i : Int).toNat).2 = false := by
      cases hc : (climb b' q.reverse (l.length : Int).toNat (i : Int).toNat).2 with
      | false => rfl
      | true =>
        have := climb_len_eq b b' (path l i) q.reverse l.length i (by rw [hp]) (by simpa using hc)
        simp only [List.length_reverse] at this
        exact absurd (by simp [proof, this]) hq
    rw [h2]; rfl
theorem check_out (r b : List UInt8) (q : List (List UInt8)) (n i : Int) (h : i < 0 ∨ n ≤ i) : check r n i b q = false := by
  unfold check; rw [if_pos h]
theorem cut_le_pow {n d : Nat} (h : 2 ≤ n) (hn : n ≤ 2 ^ (d + 1)) : cut n ≤ 2 ^ d := by
  unfold cut
  have : Nat.log2 (n - 1) < d + 1 := (Nat.log2_lt (by omega)).2 (by omega)
  exact Nat.pow_le_pow_right (by omega) (by omega)
theorem path_pow : ∀ (d : Nat) (l : List (List UInt8)) (i : Nat), l.length ≤ 2 ^ d → (path l i).length ≤ d := by
  intro d
  induction d with
  | zero => intro l i h; rw [path_one _ (by simp at h; omega)]; simp
  | succ d ih =>
    intro l i h
    rcases Nat.lt_or_ge l.length 2 with h2 | h2
    · rw [path_one _ h2]; simp
    · have c1 := cut_le_pow h2 h
      have c2 := cut_ge h2
      rcases Nat.lt_or_ge i (cut l.length) with hi | hi
      · rw [path_low h2 hi]
        have := ih (l.take (cut l.length)) i (by rw [List.length_take]; omega)
        simp only [List.length_cons]; omega
      · rw [path_high h2 hi]
        have := ih (l.drop (cut l.length)) (i - cut l.length) (by rw [List.length_drop]; omega)
        simp only [List.length_cons]; omega
theorem proof_pow (d : Nat) (l : List (List UInt8)) (i : Nat) (h : l.length ≤ 2 ^ d) : (proof l i).length ≤ d := by
  unfold proof; rw [List.length_reverse]; exact path_pow d l i h
end Go.Proofs.YtmindblfbijaaaaDoor.Sha
namespace Go.Proofs.YtmindblfbijaaaaDoor.Sha
def sides (n i : Nat) : List Bool :=
  if h : 2 ≤ n then (if i < cut n then sides (cut n) i ++ [false] else sides (n - cut n) (i - cut n) ++ [true]) else []
termination_by n
decreasing_by
  · exact cut_lt h
  · have := cut_pos n; omega
theorem sides_low {n i : Nat} (h : 2 ≤ n) (hi : i < cut n) : sides n i = sides (cut n) i ++ [false] := by
  rw [sides, dif_pos h, if_pos hi]
theorem sides_high {n i : Nat} (h : 2 ≤ n) (hi : cut n ≤ i) : sides n i = sides (n - cut n) (i - cut n) ++ [true] := by
  rw [sides, dif_pos h, if_neg (by omega)]
theorem sides_one {n : Nat} (i : Nat) (h : n < 2) : sides n i = [] := by rw [sides, dif_neg (by omega)]
def join (s : Bool) (q h : List UInt8) : List UInt8 := 1 :: (if s then q ++ h else h ++ q)
def chain (x : List UInt8) : List (Bool × List UInt8) → List (List UInt8)
  | [] => [x]
  | (s, q) :: r => x :: chain (join s q (sum x)) r
def top (x : List UInt8) : List (Bool × List UInt8) → List UInt8
  | [] => sum x
  | (s, q) :: r => top (join s q (sum x)) r
theorem top_snoc (s : Bool) (q : List UInt8) : ∀ (r : List (Bool × List UInt8)) (x : List UInt8), top x (r ++ [(s, q)]) = sum (join s q (top x r)) := by
  intro r
  induction r with
  | nil => intro x; rfl
  | cons e r ih => intro x; obtain ⟨t, y⟩ := e; exact ih _
theorem sum_join (s : Bool) (q h : List UInt8) : sum (join s q h) = if s then pair q h else pair h q := by
  cases s <;> rfl
theorem chain_ne (x : List UInt8) (r : List (Bool × List UInt8)) : chain x r ≠ [] := by
  cases r with
  | nil => simp [chain]
  | cons e r => obtain ⟨s, q⟩ := e; simp [chain]
theorem chain_length (r : List (Bool × List UInt8)) : ∀ x, (chain x r).length = r.length + 1 := by
  induction r with
  | nil => intro x; rfl
  | cons e r ih => intro x; obtain ⟨s, q⟩ := e; simp [chain, ih]
theorem chain_last (r : List (Bool × List UInt8)) : ∀ x, sum ((chain x r).getLast (chain_ne x r)) = top x r := by
  induction r with
  | nil => intro x; rfl
  | cons e r ih =>
    intro x; obtain ⟨s, q⟩ := e
    simp only [chain, top]
    rw [List.getLast_cons (chain_ne _ _)]
    exact ih _
theorem chain_snoc (s : Bool) (q : List UInt8) : ∀ (r : List (Bool × List UInt8)) (x : List UInt8), chain x (r ++ [(s, q)]) = chain x r ++ [join s q (top x r)] := by
  intro r
  induction r with
  | nil => intro x; rfl
  | cons e r ih => intro x; obtain ⟨t, y⟩ := e; simp [chain, top, ih]
/-- What climbs a proof gives the end of its chain. -/
theorem climb_top (b : List UInt8) : ∀ (p : List (List UInt8)) (n i : Nat), 1 ≤ n → (climb b p n i).2 = decide (p.length = (sides n i).length) ∧ (p.length = (sides n i).length → (climb b p n i).1 = top (0 :: b) ((sides n i).zip p.reverse)) := by
  intro p
  induction p with
  | nil =>
    intro n i hn
    by_cases h1 : n = 1
    · subst h1; rw [sides_one i (by omega)]; exact ⟨rfl, fun _ => rfl⟩
    · have : (sides n i).length ≠ 0 := by
        rcases Nat.lt_or_ge i (cut n) with h | h
        · rw [sides_low (by omega) h]; simp
        · rw [sides_high (by omega) h]; simp
      refine ⟨?_, fun h => absurd h.symm this⟩
      simp only [climb, List.length_nil]
      rw [decide_eq_false (Ne.symm this)]; simpa using h1
  | cons q r ih =>
    intro n i hn
    by_cases h1 : n = 1
    · subst h1; rw [sides_one i (by omega)]
      simp [climb]
    · have h2 : 2 ≤ n := by omega
      have c1 := cut_lt h2
      have c2 := cut_pos n
      simp only [climb, if_neg h1]
      rcases Nat.lt_or_ge i (cut n) with h | h
      · obtain ⟨k1, k2⟩ := ih (cut n) i (by omega)
        rw [if_pos h, sides_low h2 h]
        refine ⟨by simp [k1], fun hl => ?_⟩
        have hl' : r.length = (sides (cut n) i).length := by simpa using hl
        rw [List.reverse_cons, List.zip_append (by simpa using hl'.symm), List.zip_cons_cons, List.zip_nil_right, top_snoc, sum_join, ← k2 hl']
        rfl
      · obtain ⟨k1, k2⟩ := ih (n - cut n) (i - cut n) (by omega)
        rw [if_neg (by omega), sides_high h2 h]
        refine ⟨by simp [k1], fun hl => ?_⟩
        have hl' : r.length = (sides (n - cut n) (i - cut n)).length := by simpa using hl
        rw [List.reverse_cons, List.zip_append (by simpa using hl'.symm), List.zip_cons_cons, List.zip_nil_right, top_snoc, sum_join, ← k2 hl']
        rfl
/-- A proof is accepted exactly if it is as long as its sides, and its chain ends in the root. -/
theorem check_top (root b : List UInt8) (n i : Int) (p : List (List UInt8)) : check root n i b p = if i < 0 ∨ n ≤ i then false else decide (p.length = (sides n.toNat i.toNat).length) && decide (top (0 :: b) ((sides n.toNat i.toNat).zip p) = root) := by
  unfold check
  split
  · rfl
  · rename_i h
    obtain ⟨k1, k2⟩ := climb_top b p.reverse n.toNat i.toNat (by omega)
    rw [k1]
    simp only [List.length_reverse, List.reverse_reverse] at k2 ⊢
    by_cases hl : p.length = (sides n.toNat i.toNat).length
    · rw [k2 hl]
    · simp [hl]
/-- Two different lists of bytes with the same hash, one of each chain. -/
def Met (a b : List (List UInt8)) : Prop := ∃ x ∈ a, ∃ y ∈ b, x ≠ y ∧ sum x = sum y
theorem join_eq {s : Bool} {q q' h h' : List UInt8} (h1 : q.length = 32) (h2 : q'.length = 32) (h3 : h.length = 32) (h4 : h'.length = 32) (e : join s q h = join s q' h') : q = q' ∧ h = h' := by
  simp only [join, List.cons.injEq, true_and] at e
  cases s with
  | true => exact List.append_inj e (by omega)
  | false => exact (List.append_inj e (by omega)).symm
theorem top_binds : ∀ (ss : List Bool) (p q : List (List UInt8)) (x y : List UInt8), p.length = ss.length → q.length = ss.length → (∀ s ∈ p, s.length = 32) → (∀ s ∈ q, s.length = 32) → top x (ss.zip p) = top y (ss.zip q) →
    (x = y ∧ p = q) ∨ Met (chain x (ss.zip p)) (chain y (ss.zip q)) := by
  intro ss
  induction ss with
  | nil =>
    intro p q x y hp hq _ _ h
    have : p = [] := List.eq_nil_of_length_eq_zero hp
    have : q = [] := List.eq_nil_of_length_eq_zero hq
    subst p; subst q
    by_cases e : x = y
    · exact .inl ⟨e, rfl⟩
    · exact .inr ⟨x, by simp [chain], y, by simp [chain], e, h⟩
  | cons s ss ih =>
    intro p q x y hp hq lp lq h
    match p, q, hp, hq with
    | u :: p, v :: q, hp, hq =>
      simp only [List.zip_cons_cons, top, chain] at h ⊢
      rcases ih p q _ _ (by simpa using hp) (by simpa using hq) (fun s hs => lp s (by simp [hs])) (fun s hs => lq s (by simp [hs])) h with ⟨e1, e2⟩ | ⟨a, ha, b, hb, hne, hs⟩
      · obtain ⟨e3, e4⟩ := join_eq (lp u (by simp)) (lq v (by simp)) (sum_len x) (sum_len y) e1
        by_cases e : x = y
        · exact .inl ⟨e, by rw [e2, e3]⟩
        · exact .inr ⟨x, by simp, y, by simp, e, e4⟩
      · exact .inr ⟨a, by simp [ha], b, by simp [hb], hne, hs⟩
/-- If two elements, or one with two proofs, are accepted at one place, two lists of bytes have the same hash. -/
theorem check_binds {root b b' : List UInt8} {n i : Nat} {p q : List (List UInt8)} (lp : ∀ s ∈ p, s.length = 32) (lq : ∀ s ∈ q, s.length = 32) (h1 : check root n i b p = true) (h2 : check root n i b' q = true) (hne : ¬ (b' = b ∧ q = p)) :
    Met (chain (0 :: b) ((sides n i).zip p)) (chain (0 :: b') ((sides n i).zip q)) := by
  rw [check_top] at h1 h2
  split at h1
  · cases h1
  · rename_i hin
    rw [if_neg hin] at h2
    simp only [Bool.and_eq_true, decide_eq_true_eq, Int.toNat_natCast] at h1 h2
    rcases top_binds _ p q _ _ h1.1 h2.1 lp lq (h1.2.trans h2.2.symm) with ⟨e1, e2⟩ | h
    · exact absurd ⟨(List.cons.inj e1).2.symm, e2.symm⟩ hne
    · exact h
end Go.Proofs.YtmindblfbijaaaaDoor.Sha
namespace Go.Proofs.YtmindblfbijaaaaDoor
open Go.RowKit
set_option maxRecDepth 100000
theorem nil_bytes : (D.list 0 [] true).le (bytesL []) := D.le_nil' 0 1 true
theorem nil_sums : (D.list 0 [] true).le (sumsL []) := D.le_nil' 0 32 true
theorem len32_of {p : List (List UInt8)} (h : Len32' p) : Len32 p := h
theorem check_nil (root : List UInt8) (n i : Int) (hr : root.length = 32) (hn : n ≤ 4294967296) (h : i < 0 ∨ n ≤ i) : CallsD Tryd.prog HG 23 [sumD root, .v (.int .i64 n), .v (.int .i64 i), .list 0 [] true, .list 0 [] true] (.v (.bool false)) := by
  have := check_D root [] n i [] hr (by simp) (fun _ h => by cases h) (by simp) hn
  rw [Sha.check_out _ _ _ _ _ h] at this
  exact this.args fun C => outs_le (D.le.refl _) (outs_le (D.le.refl _) (outs_le (D.le.refl _) (outs_le nil_bytes (outs_le nil_sums (outs_same [])))))
theorem zero_row (p : List (List UInt8)) : List.map rowS p ++ [rowS (List.replicate 32 0)] = List.map rowS (p ++ [List.replicate 32 0]) := by simp

theorem places_D (xs : List (List UInt8)) (n i : Int) (hx : xs.length ≤ 9223372036854775807) (hn : -2147483648 ≤ n ∧ n ≤ 2147483647) (hi : -2147483648 ≤ i ∧ i ≤ 2147483647) : CallsD Tryd.prog HG 7 [elemsL xs, .v (.int .i32 n), .v (.int .i32 i)] (.v (.bool true)) := by
  obtain ⟨hF', hl⟩ := fit_elems xs
  refine CallsD.of Tryd.func7 rfl Tryd.ntmps7 (by simp) ?_; intro F hF; simp only [List.zipIdx_cons, List.zipIdx_nil, List.map_cons, List.map_nil, Nat.zero_add, Nat.reduceAdd]
  refine Sm.seq ?_
  refine Sm.regionG hF rfl ?_
  refine SmG.v hF rfl rfl rfl (opV_assign rfl rfl) ?_
  refine SmG.nil ?_
  refine nextS_normal ?_
  refine Sm.seq ?_
  refine Sm.regionG hF rfl ?_
  refine SmG.call hF rfl rfl (by kernel_rfl) rfl rfl rfl (sanity_D) ?_
  refine SmG.v hF rfl rfl rfl (opV_assign rfl rfl) ?_
  refine SmG.nil ?_
  refine nextS_normal ?_
  refine Sm.seq ?_
  refine Sm.regionG hF rfl ?_
  refine SmG.v hF rfl rfl rfl (opV_move rfl rfl) ?_
  refine SmG.call hF rfl rfl (by kernel_rfl) rfl rfl rfl (elements_D xs hx) ?_
  refine SmG.v hF rfl rfl rfl (opV_assign rfl rfl) ?_
  refine SmG.nil ?_
  refine nextS_normal ?_
  refine Sm.seq ?_
  refine Sm.regionG hF rfl ?_
  refine SmG.v hF rfl rfl rfl (opV_move rfl rfl) ?_
  refine SmG.call hF rfl rfl (by kernel_rfl) rfl rfl rfl (root_D _ hF') ?_
  refine SmG.new hF rfl rfl rfl (opS_alloc rfl al28) ?_
  refine SmG.store hF rfl rfl rfl rfl rfl (by simp (disch := omega) only [go_sem, Nat.reduceEqDiff, iteP] <;> rfl) ?_
  refine SmG.nil ?_
  refine nextS_normal ?_
  refine Sm.seq ?_
  refine Sm.seq ?_
  refine Sm.regionG hF rfl ?_
  refine SmG.v hF rfl rfl rfl (opV_assign rfl rfl) ?_
  refine SmG.nil ?_
  refine nextS_normal ?_
  refine Sm.block ?_
  generalize elems xs = l at hF' hl ⊢
  have hR := Sha.root_len l
  generalize hroot : Sha.root l = R at hR ⊢
  have n1 := check_nil R n (-1) hR (by omega) (by omega)
  have n2 := check_nil R n n hR (by omega) (by omega)
  refine Sm.loop (ι := {k : Nat // k ≤ l.length}) (fun k => ⟨[(1, .d (.v (.int .i32 n))), (2, .d (.v (.int .i32 i))), (7, .d (.v (.bool true))), (8, .d (elemsL l)), (9, .ref 0 0 0), (10, .d (.v (.int .i64 k.1)))], [(0, dB 32 [rowS R])], 1⟩) (fun k => l.length - k.1) (⟨0, by omega⟩) ?_ ?_
  · exact St.le_of (by simp [leE, look, constD]) (by simp [leH, look, rep]) (by first | exact Nat.le_refl _ | (dsimp only; omega))
  rintro ⟨k, hk⟩
  simp only

  by_cases hlt : k < l.length
  · have hk1 : l[k]? = some l[k] := by simp
    have c0 := proof_D l k hF' hlt
    have hP : Len32' (Sha.proof l k) := proof_len32' l k
    have hPl : (Sha.proof l k).length ≤ 9 := Nat.le_trans (proof_le l k) hl
    have hpow := fun d => Sha.proof_pow d l k
    have hlen := fun q => Sha.check_len hk1 R l[k] q
    have hb := hF'.2 _ (List.getElem_mem hlt)
    generalize hp : Sha.proof l k = p at c0 hP hPl hpow hlen ⊢
    have c1 := check_D R l[k] l.length k (p ++ [List.replicate 32 0]) hR hb (by intro s hs; rcases List.mem_append.1 hs with h | h; exact hP s h; simp at h; rw [h]; simp) (by simp; omega) (by omega)
    rw [hlen _ (by simp)] at c1
    have c3 := fun (h : i < 0 ∨ n ≤ i) => check_D R l[k] n i p hR hb hP (by omega) (by omega)
    have c3' : i < 0 ∨ n ≤ i → CallsD Tryd.prog HG 23 [sumD R, .v (.int .i64 n), .v (.int .i64 i), bytesL l[k], sumsL p] (.v (.bool false)) := fun h => by
      have := c3 h
      rw [Sha.check_out _ _ _ _ _ h] at this
      exact this
    have hcast : ((p.length : Int) - 1).toNat = p.length - 1 := by omega
    have hsub : p.length - 1 ≤ p.length := Nat.sub_le _ _

    refine Sm.seq ?_
    refine Sm.seq ?_
    refine Sm.regionG hF rfl ?_
    refine SmG.v hF rfl rfl rfl (opV_move rfl rfl) ?_
    refine SmG.v hF rfl rfl rfl (opV_move rfl rfl) ?_
    refine SmG.v hF rfl rfl rfl (opV_len rfl rfl (by simp (disch := omega) only [go_sem, Nat.reduceEqDiff, iteP, hk1, elemsL, bytesL, rowE, sumsL, sumD, sumD_length, hR] <;> rfl)) ?_
    refine SmG.v hF rfl rfl rfl (opV_bin rfl rfl rfl (by first | exact rd_lssT _ _ _ _ _ (by omega) | exact rd_lssF _ _ _ _ _ (by omega) | exact rb_lss _ _ _ _ _ _ _)) ?_
    refine SmG.nil ?_
    refine nextS_normal ?_
    refine Sm.condT hF rfl ?_
    refine Sm.skip ?_
    refine nextS_normal ?_
    refine Sm.seq ?_
    refine Sm.block ?_
    refine Sm.seq ?_
    refine Sm.regionG hF rfl ?_
    refine SmG.v hF rfl rfl rfl (opV_move rfl rfl) ?_
    refine SmG.v hF rfl rfl rfl (opV_move rfl rfl) ?_
    refine SmG.call hF rfl rfl (by kernel_rfl) rfl rfl rfl (c0) ?_
    refine SmG.v hF rfl rfl rfl (opV_move rfl rfl) ?_
    refine SmG.v hF rfl rfl rfl (by first | exact opV_extract rfl rfl rfl | exact opV_extract0 rfl rfl) ?_
    refine SmG.v hF rfl rfl rfl (by first | exact opV_extract rfl rfl rfl | exact opV_extractS rfl rfl rfl) ?_
    refine SmG.v hF rfl rfl rfl (opV_assign rfl rfl) ?_
    refine SmG.v hF rfl rfl rfl (opV_assign rfl rfl) ?_
    refine SmG.nil ?_
    refine nextS_normal ?_
    refine Sm.seq ?_
    refine Sm.regionG hF rfl ?_
    refine SmG.v hF rfl rfl rfl (opV_assign rfl rfl) ?_
    refine SmG.nil ?_
    refine nextS_normal ?_
    refine Sm.seq ?_
    refine Sm.seq ?_
    refine Sm.regionG hF rfl ?_
    refine SmG.v hF rfl rfl rfl (opV_move rfl rfl) ?_
    refine SmG.v hF rfl rfl rfl (opV_len rfl rfl (by simp (disch := omega) only [go_sem, Nat.reduceEqDiff, iteP, hk1, elemsL, bytesL, rowE, sumsL, sumD, sumD_length, hR] <;> rfl)) ?_
    refine SmG.v hF rfl rfl rfl (opV_bin rfl rfl rfl (by first | exact rd_sub _ _ _ _ _ (wrapI64 _ (by omega)) | exact rb_sub _ _ _ _ _ _ _)) ?_
    refine SmG.v hF rfl rfl rfl (opV_assign rfl rfl) ?_
    refine SmG.nil ?_
    refine nextS_normal ?_
    refine Sm.block ?_
    refine Sm.loop (ι := {d : Nat // d ≤ 9 ∧ (d = 0 ∨ 0 < (l.length - 1) / 2 ^ (d - 1))}) (fun d => ⟨[(1, .d (.v (.int .i32 n))), (2, .d (.v (.int .i32 i))), (7, .d (.v (.bool true))), (8, .d (elemsL l)), (9, .ref 0 0 0), (10, .d (.v (.int .i64 k))), (11, .d (sumsL p)), (12, .d (.v (.int .i64 0))), (13, .d (.v (.int .i64 d.1))), (14, .d (.v (.int .i64 ((l.length - 1) / 2 ^ d.1 : Nat))))], [(0, dB 32 [rowS R])], 1⟩) (fun d => (l.length - 1) / 2 ^ d.1) (⟨0, by omega, .inl rfl⟩) ?_ ?_
    · have hone : ((l.length : Int) - 1) = (((l.length - 1) / 1 : Nat) : Int) := by omega
      simp only [Nat.pow_zero]
      rw [← hone]
      exact St.le_of (by simp [leE, look, constD]) (by simp [leH, look, rep]) (by first | exact Nat.le_refl _ | (dsimp only; omega))
    rintro ⟨d, hd9, hd⟩
    simp only
    have hpd := hpow d
    have hzero : (l.length - 1) / 2 ^ d = 0 → l.length ≤ 2 ^ d := by
      intro h0
      have h2 : 0 < 2 ^ d := Nat.pow_pos (by omega)
      have := (Nat.div_eq_zero_iff.1 h0)
      omega
    have hsucc : (l.length - 1) / 2 ^ (d + 1) = (l.length - 1) / 2 ^ d / 2 := by rw [Nat.pow_succ, Nat.div_div_eq_div_mul]
    have hlog : 0 < (l.length - 1) / 2 ^ d → d + 1 ≤ 9 := by
      intro h0
      have h2 : 2 ^ d ≤ l.length - 1 := by
        have := Nat.div_mul_le_self (l.length - 1) (2 ^ d)
        have : 1 * 2 ^ d ≤ (l.length - 1) / 2 ^ d * 2 ^ d := Nat.mul_le_mul_right _ h0
        omega
      have h3 : d < 2 ^ d := Nat.lt_two_pow_self
      omega
    have hmle : (l.length - 1) / 2 ^ d ≤ 9 := Nat.le_trans (Nat.div_le_self _ _) (by omega)
    generalize hm : (l.length - 1) / 2 ^ d = m at hzero hsucc hlog hmle ⊢

    by_cases hm0 : 0 < m
    · refine Sm.seq ?_
      refine Sm.seq ?_
      refine Sm.regionG hF rfl ?_
      refine SmG.v hF rfl rfl rfl (opV_move rfl rfl) ?_
      refine SmG.v hF rfl rfl rfl (opV_bin rfl rfl rfl (by first | exact rd_gtrT _ _ _ _ _ (by omega) | exact rd_gtrF _ _ _ _ _ (by omega) | exact rb_gtr _ _ _ _ _ _ _)) ?_
      refine SmG.nil ?_
      refine nextS_normal ?_
      refine Sm.condT hF rfl ?_
      refine Sm.skip ?_
      refine nextS_normal ?_
      refine Sm.seq ?_
      refine Sm.block ?_
      refine Sm.regionG hF rfl ?_
      refine SmG.v hF rfl rfl rfl (opV_move rfl rfl) ?_
      refine SmG.v hF rfl rfl rfl (opV_bin rfl rfl rfl (by first | exact rd_add _ _ _ _ _ (wrapI64 _ (by omega)) | exact rb_add _ _ _ _ _ _ _)) ?_
      refine SmG.v hF rfl rfl rfl (opV_assign rfl rfl) ?_
      refine SmG.nil ?_
      refine blockS_normal ?_
      refine nextS_normal ?_
      refine Sm.regionG hF rfl ?_
      refine SmG.v hF rfl rfl rfl (opV_move rfl rfl) ?_
      refine SmG.v hF rfl rfl rfl (opV_bin rfl rfl rfl (by first | exact rd_quo _ _ _ _ (by omega) (by omega) | exact rb_quo _ _ _ _ _ _ _ (by omega))) ?_
      refine SmG.v hF rfl rfl rfl (opV_assign rfl rfl) ?_
      refine SmG.nil ?_
      refine nextS_normal ?_
      have hdiv : (m : Int) / 2 = (((l.length - 1) / 2 ^ (d + 1) : Nat) : Int) := by rw [hsucc]; omega
      exact ⟨⟨d + 1, hlog hm0, .inr (by rw [Nat.add_sub_cancel, hm]; exact hm0)⟩, by show (l.length - 1) / 2 ^ (d + 1) < _; rw [hsucc]; omega, by exact St.le_of (by simp [leE, look, constD, hdiv]) (by simp [leH, look, rep, hdiv]) (by first | exact Nat.le_refl _ | (dsimp only; omega))⟩
    · have hle : p.length ≤ d := hpd (hzero (by omega))

      refine Sm.seq ?_
      refine Sm.seq ?_
      refine Sm.regionG hF rfl ?_
      refine SmG.v hF rfl rfl rfl (opV_move rfl rfl) ?_
      refine SmG.v hF rfl rfl rfl (opV_bin rfl rfl rfl (by first | exact rd_gtrT _ _ _ _ _ (by omega) | exact rd_gtrF _ _ _ _ _ (by omega) | exact rb_gtr _ _ _ _ _ _ _)) ?_
      refine SmG.nil ?_
      refine nextS_normal ?_
      refine Sm.condF hF rfl ?_
      refine Sm.exit ?_
      simp only [nextS, blockS, reduceIte, reduceCtorEq]
      refine Sm.seq ?_
      refine Sm.seq ?_
      refine Sm.regionG hF rfl ?_
      refine SmG.v hF rfl rfl rfl (opV_move rfl rfl) ?_
      refine SmG.v hF rfl rfl rfl (opV_bin rfl rfl rfl (by first | exact rd_neqT _ _ _ _ _ (by omega) | exact rd_neqF _ _ _ _ _ (by omega) | exact rb_neq _ _ _ _ _ _ _)) ?_
      refine SmG.v hF rfl rfl rfl (opV_move rfl rfl) ?_
      first | refine SmG.v hF rfl rfl rfl (opV_move rfl rfl) ?_ | refine SmG.pass hF rfl rfl rfl ?_
      first | refine SmG.v hF rfl rfl rfl (opV_len rfl rfl (by simp (disch := omega) only [go_sem, Nat.reduceEqDiff, iteP, hk1, elemsL, bytesL, rowE, sumsL, sumD, sumD_length, hR] <;> rfl)) ?_ | refine SmG.pass hF rfl rfl rfl ?_
      first | refine SmG.v hF rfl rfl rfl (opV_move rfl rfl) ?_ | refine SmG.pass hF rfl rfl rfl ?_
      first | refine SmG.v hF rfl rfl rfl (opV_bin rfl rfl rfl (by first | exact rd_gtrT _ _ _ _ _ (by omega) | exact rd_gtrF _ _ _ _ _ (by omega) | exact rb_gtr _ _ _ _ _ _ _)) ?_ | refine SmG.pass hF rfl rfl rfl ?_
      first | refine SmG.v hF rfl rfl rfl (opV_pickT rfl rfl rfl) ?_ | refine SmG.v hF rfl rfl rfl (opV_pickF rfl rfl rfl) ?_
      refine SmG.nil ?_
      refine nextS_normal ?_
      refine Sm.condF hF rfl ?_
      refine Sm.skip ?_
      refine nextS_normal ?_
      refine Sm.seq ?_
      refine Sm.regionG hF rfl ?_
      refine SmG.v hF rfl rfl rfl (opV_buildSlice rfl rfl (by simp (disch := omega) only [go_sem, Nat.reduceEqDiff, iteP, hk1, elemsL, bytesL, rowE, sumsL, sumD, sumD_length, hR] <;> rfl)) ?_
      refine SmG.v hF rfl rfl rfl (opV_move rfl rfl) ?_
      -- stands at 52 of region 15: {"dst": 52, "op": "call", "a": [{"callee": ["builtin", "Callee.builtin Builtin.append"], "args": [["tmp", 50], ["tmp", 51]], "types": [32, 32]}], "ty"
      refine SmG.appendFresh hF elSum rfl rfl rfl rfl rfl rfl (Or.inl rfl) (by simp only [List.length_map]; omega) (by simp only [List.length_map]; omega) ?_
      refine SmG.v hF rfl rfl rfl (opV_assign rfl rfl) ?_
      refine SmG.nil ?_
      refine nextS_normal ?_
      refine Sm.seq ?_
      refine Sm.regionG hF rfl ?_
      refine SmG.v hF rfl rfl rfl (opV_move rfl rfl) ?_
      refine SmG.v hF rfl rfl rfl (opV_buildA rfl Tryd.underlying28 rfl bz28) ?_
      refine SmG.v hF rfl rfl rfl (opV_buildSlice rfl rfl (by simp (disch := omega) only [go_sem, Nat.reduceEqDiff, iteP, hk1, elemsL, bytesL, rowE, sumsL, sumD, sumD_length, hR] <;> rfl)) ?_
      -- stands at 56 of region 16: {"dst": 56, "op": "call", "a": [{"callee": ["builtin", "Callee.builtin Builtin.append"], "args": [["tmp", 53], ["tmp", 55]], "types": [32, 32]}], "ty"
      refine SmG.appendOwn hF elSum rfl rfl rfl rfl rfl rfl rfl (by first | rfl | (simp; done) | (simp; omega)) (Or.inl rfl) (by (repeat' first | exact freeH_nil _ | refine freeH_same ?_ | refine freeH_cons ?_ (free_dB _ _ _) | refine freeH_cons ?_ (free_dB _ _ [_]) | refine freeH_cons ?_ (free_row (by rfl)))) ?_ ?_ ?_; rotate_left; rotate_left; simp only [killV, Pk.v, V.free, rep, bne_self_eq_false, Nat.reduceAdd, Nat.reduceBNe, Nat.reduceBEq, Nat.reduceEqDiff, reduceIte, Bool.false_eq_true]
      rotate_left
      · simp only [List.length_map, List.length_cons, List.length_nil]; omega
      · simp only [List.length_map, List.length_cons, List.length_nil]; omega
      refine SmG.freeze (l := 1) (sz := 32) (List.map rowS (p ++ [List.replicate 32 0])) (by show some (dB 32 (List.map rowS p ++ [rowS (List.replicate 32 0)])) = _; rw [zero_row]) ?_
      simp only [Pk.v, frzE, frzV, dropH, reduceIte, Nat.reduceAdd, Nat.zero_add, List.length_map, List.length_append, Nat.le_refl, true_and, and_self, if_true, Nat.reduceEqDiff, List.length_cons, List.length_nil]
      refine SmG.cut 1 (by exact ltH_cons (ltH_nil _) (lt_dB _ 32 [rowS R])) ?_; simp only [Pk.v, cutE, cutH, V.lt, Nat.reduceAdd, Nat.reduceLT, decide_true, decide_false, reduceIte, Bool.false_eq_true, Nat.lt_irrefl, Nat.not_lt_zero, Nat.zero_lt_one, Nat.zero_lt_succ, Nat.zero_lt_two, Nat.one_lt_two]

      by_cases hp0 : 0 < p.length
      · have c2 := check_D R l[k] l.length k (p.take (p.length - 1)) hR hb (fun s hs => hP s (List.mem_of_mem_take hs)) (by simp; omega) (by omega)
        rw [hlen _ (by rw [List.length_take]; omega)] at c2

        refine SmG.v hF rfl rfl rfl (opV_assign rfl rfl) ?_
        refine SmG.nil ?_
        refine nextS_normal ?_
        refine Sm.seq ?_
        refine Sm.seq ?_
        refine Sm.drawG hF (by kernel_rfl) rfl 31 (by kernel_rfl) (by kernel_rfl) ?_
        simp only [List.take_succ_cons, List.take_zero, List.take_nil]
        refine Head.v hF rfl rfl rfl (opV_load rfl rfl (by simp (disch := omega) only [go_sem, Nat.reduceEqDiff, iteP, hk1, elemsL, bytesL, rowE, sumsL, sumD, sumD_length, hR, take_map', hcast, hsub] <;> rfl)) ?_
        refine Head.v hF rfl rfl rfl (opV_move rfl rfl) ?_
        refine Head.v hF rfl rfl rfl (opV_len rfl rfl (by simp (disch := omega) only [go_sem, Nat.reduceEqDiff, iteP, hk1, elemsL, bytesL, rowE, sumsL, sumD, sumD_length, hR, take_map', hcast, hsub] <;> rfl)) ?_
        refine Head.v hF rfl rfl rfl (opV_move rfl rfl) ?_
        refine Head.v hF rfl rfl rfl (opV_move rfl rfl) ?_
        refine Head.v hF rfl rfl rfl (opV_move rfl rfl) ?_
        refine Head.v hF rfl rfl rfl (opV_indexAddr rfl rfl rfl (by simp (disch := omega) only [go_sem, Nat.reduceEqDiff, iteP, hk1, elemsL, bytesL, rowE, sumsL, sumD, sumD_length, hR, take_map', hcast, hsub] <;> rfl)) ?_
        refine Head.v hF rfl rfl rfl (opV_load rfl rfl (by simp (disch := omega) only [go_sem, Nat.reduceEqDiff, iteP, hk1, elemsL, bytesL, rowE, sumsL, sumD, sumD_length, hR, take_map', hcast, hsub] <;> rfl)) ?_
        refine Head.v hF rfl rfl rfl (opV_move rfl rfl) ?_
        refine Head.c hF rfl rfl (by kernel_rfl) rfl rfl rfl (c1) ?_
        refine Head.v hF rfl rfl rfl (opV_move rfl rfl) ?_
        first | refine Head.v hF rfl rfl rfl (opV_move rfl rfl) ?_ | refine Head.p hF rfl rfl rfl ?_
        first | refine Head.v hF rfl rfl rfl (opV_len rfl rfl (by simp (disch := omega) only [go_sem, Nat.reduceEqDiff, iteP, hk1, elemsL, bytesL, rowE, sumsL, sumD, sumD_length, hR, take_map', hcast, hsub] <;> rfl)) ?_ | refine Head.p hF rfl rfl rfl ?_
        first | refine Head.v hF rfl rfl rfl (opV_bin rfl rfl rfl (by first | exact rd_gtrT _ _ _ _ _ (by omega) | exact rd_gtrF _ _ _ _ _ (by omega) | exact rb_gtr _ _ _ _ _ _ _)) ?_ | refine Head.p hF rfl rfl rfl ?_
        first | refine Head.v hF rfl rfl rfl (opV_move rfl rfl) ?_ | refine Head.p hF rfl rfl rfl ?_
        first | refine Head.v hF rfl rfl rfl (opV_load rfl rfl (by simp (disch := omega) only [go_sem, Nat.reduceEqDiff, iteP, hk1, elemsL, bytesL, rowE, sumsL, sumD, sumD_length, hR, take_map', hcast, hsub] <;> rfl)) ?_ | refine Head.p hF rfl rfl rfl ?_
        first | refine Head.v hF rfl rfl rfl (opV_move rfl rfl) ?_ | refine Head.p hF rfl rfl rfl ?_
        first | refine Head.v hF rfl rfl rfl (opV_len rfl rfl (by simp (disch := omega) only [go_sem, Nat.reduceEqDiff, iteP, hk1, elemsL, bytesL, rowE, sumsL, sumD, sumD_length, hR, take_map', hcast, hsub] <;> rfl)) ?_ | refine Head.p hF rfl rfl rfl ?_
        first | refine Head.v hF rfl rfl rfl (opV_move rfl rfl) ?_ | refine Head.p hF rfl rfl rfl ?_
        first | refine Head.v hF rfl rfl rfl (opV_move rfl rfl) ?_ | refine Head.p hF rfl rfl rfl ?_
        first | refine Head.v hF rfl rfl rfl (opV_move rfl rfl) ?_ | refine Head.p hF rfl rfl rfl ?_
        first | refine Head.v hF rfl rfl rfl (opV_indexAddr rfl rfl rfl (by simp (disch := omega) only [go_sem, Nat.reduceEqDiff, iteP, hk1, elemsL, bytesL, rowE, sumsL, sumD, sumD_length, hR, take_map', hcast, hsub] <;> rfl)) ?_ | refine Head.p hF rfl rfl rfl ?_
        first | refine Head.v hF rfl rfl rfl (opV_load rfl rfl (by simp (disch := omega) only [go_sem, Nat.reduceEqDiff, iteP, hk1, elemsL, bytesL, rowE, sumsL, sumD, sumD_length, hR, take_map', hcast, hsub] <;> rfl)) ?_ | refine Head.p hF rfl rfl rfl ?_
        first | refine Head.v hF rfl rfl rfl (opV_move rfl rfl) ?_ | refine Head.p hF rfl rfl rfl ?_
        first | refine Head.v hF rfl rfl rfl (opV_move rfl rfl) ?_ | refine Head.p hF rfl rfl rfl ?_
        first | refine Head.v hF rfl rfl rfl (opV_len rfl rfl (by simp (disch := omega) only [go_sem, Nat.reduceEqDiff, iteP, hk1, elemsL, bytesL, rowE, sumsL, sumD, sumD_length, hR, take_map', hcast, hsub] <;> rfl)) ?_ | refine Head.p hF rfl rfl rfl ?_
        first | refine Head.v hF rfl rfl rfl (opV_bin rfl rfl rfl (by first | exact rd_sub _ _ _ _ _ (wrapI64 _ (by omega)) | exact rb_sub _ _ _ _ _ _ _)) ?_ | refine Head.p hF rfl rfl rfl ?_
        first | refine Head.v hF rfl rfl rfl (opV_slice rfl rfl rfl rfl rfl (by simp (disch := omega) only [go_sem, Nat.reduceEqDiff, iteP, hk1, elemsL, bytesL, rowE, sumsL, sumD, sumD_length, hR, take_map', hcast, hsub] <;> rfl)) ?_ | refine Head.p hF rfl rfl rfl ?_
        first | refine Head.c hF rfl rfl (by kernel_rfl) rfl rfl rfl (c2) ?_ | refine Head.p hF rfl rfl rfl ?_
        first | refine Head.v hF rfl rfl rfl (opV_pickT rfl rfl rfl) ?_ | refine Head.v hF rfl rfl rfl (opV_pickF rfl rfl rfl) ?_ | refine Head.p hF rfl rfl rfl ?_
        first | refine Head.v hF rfl rfl rfl (opV_pickT rfl rfl rfl) ?_ | refine Head.v hF rfl rfl rfl (opV_pickF rfl rfl rfl) ?_
        refine Head.last ⟨rfl, ?_⟩
        simp only [List.drop_succ_cons, List.drop_zero, List.drop_nil, List.nil_append, List.cons_append]
        refine SmG.nil ?_
        refine nextS_normal ?_
        refine Sm.condF hF rfl ?_

        by_cases hi0 : i < 0
        · refine Sm.skip ?_
          refine nextS_normal ?_
          refine Sm.seq ?_
          refine Sm.drawG hF (by kernel_rfl) rfl 20 (by kernel_rfl) (by kernel_rfl) ?_
          simp only [List.take_succ_cons, List.take_zero, List.take_nil]
          refine Head.v hF rfl rfl rfl (opV_move rfl rfl) ?_
          refine Head.v hF rfl rfl rfl (opV_bin rfl rfl rfl (by first | exact rd_lssT _ _ _ _ _ (by omega) | exact rd_lssF _ _ _ _ _ (by omega) | exact rb_lss _ _ _ _ _ _ _)) ?_
          refine Head.v hF rfl rfl rfl (opV_move rfl rfl) ?_
          first | refine Head.v hF rfl rfl rfl (opV_move rfl rfl) ?_ | refine Head.p hF rfl rfl rfl ?_
          first | refine Head.v hF rfl rfl rfl (opV_move rfl rfl) ?_ | refine Head.p hF rfl rfl rfl ?_
          first | refine Head.v hF rfl rfl rfl (opV_bin rfl rfl rfl (by first | exact rd_geqT _ _ _ _ _ (by omega) | exact rd_geqF _ _ _ _ _ (by omega) | exact rb_geq _ _ _ _ _ _ _)) ?_ | refine Head.p hF rfl rfl rfl ?_
          first | refine Head.v hF rfl rfl rfl (opV_pickT rfl rfl rfl) ?_ | refine Head.v hF rfl rfl rfl (opV_pickF rfl rfl rfl) ?_
          refine Head.v hF rfl rfl rfl (opV_move rfl rfl) ?_
          first | refine Head.v hF rfl rfl rfl (opV_load rfl rfl (by simp (disch := omega) only [go_sem, Nat.reduceEqDiff, iteP, hk1, elemsL, bytesL, rowE, sumsL, sumD, sumD_length, hR, take_map', hcast, hsub] <;> rfl)) ?_ | refine Head.p hF rfl rfl rfl ?_
          first | refine Head.v hF rfl rfl rfl (opV_move rfl rfl) ?_ | refine Head.p hF rfl rfl rfl ?_
          first | refine Head.v hF rfl rfl rfl (opV_conv rfl rfl (by first | exact convS_int rfl rfl (wrapI64 _ (by omega)) | (simp (disch := omega) only [go_sem, hk1, elemsL, bytesL, rowE, sumsL, sumD, sumD_length, hR, take_map', hcast, hsub] <;> rfl))) ?_ | refine Head.p hF rfl rfl rfl ?_
          first | refine Head.v hF rfl rfl rfl (opV_move rfl rfl) ?_ | refine Head.p hF rfl rfl rfl ?_
          first | refine Head.v hF rfl rfl rfl (opV_conv rfl rfl (by first | exact convS_int rfl rfl (wrapI64 _ (by omega)) | (simp (disch := omega) only [go_sem, hk1, elemsL, bytesL, rowE, sumsL, sumD, sumD_length, hR, take_map', hcast, hsub] <;> rfl))) ?_ | refine Head.p hF rfl rfl rfl ?_
          first | refine Head.v hF rfl rfl rfl (opV_move rfl rfl) ?_ | refine Head.p hF rfl rfl rfl ?_
          first | refine Head.v hF rfl rfl rfl (opV_move rfl rfl) ?_ | refine Head.p hF rfl rfl rfl ?_
          first | refine Head.v hF rfl rfl rfl (opV_indexAddr rfl rfl rfl (by simp (disch := omega) only [go_sem, Nat.reduceEqDiff, iteP, hk1, elemsL, bytesL, rowE, sumsL, sumD, sumD_length, hR, take_map', hcast, hsub] <;> rfl)) ?_ | refine Head.p hF rfl rfl rfl ?_
          first | refine Head.v hF rfl rfl rfl (opV_load rfl rfl (by simp (disch := omega) only [go_sem, Nat.reduceEqDiff, iteP, hk1, elemsL, bytesL, rowE, sumsL, sumD, sumD_length, hR, take_map', hcast, hsub] <;> rfl)) ?_ | refine Head.p hF rfl rfl rfl ?_
          first | refine Head.v hF rfl rfl rfl (opV_move rfl rfl) ?_ | refine Head.p hF rfl rfl rfl ?_
          first | refine Head.c hF rfl rfl (by kernel_rfl) rfl rfl rfl (c3' (.inl hi0)) ?_ | refine Head.p hF rfl rfl rfl ?_
          first | refine Head.v hF rfl rfl rfl (opV_pickT rfl rfl rfl) ?_ | refine Head.v hF rfl rfl rfl (opV_pickF rfl rfl rfl) ?_
          refine Head.last ⟨rfl, ?_⟩
          simp only [List.drop_succ_cons, List.drop_zero, List.drop_nil, List.nil_append, List.cons_append]
          refine SmG.nil ?_
          refine nextS_normal ?_
          refine Sm.condF hF rfl ?_
          refine Sm.skip ?_
          refine blockS_normal ?_
          refine nextS_normal ?_
          refine Sm.regionG hF rfl ?_
          refine SmG.v hF rfl rfl rfl (opV_move rfl rfl) ?_
          refine SmG.v hF rfl rfl rfl (opV_bin rfl rfl rfl (by first | exact rd_add _ _ _ _ _ (wrapI64 _ (by omega)) | exact rb_add _ _ _ _ _ _ _)) ?_
          refine SmG.v hF rfl rfl rfl (opV_assign rfl rfl) ?_
          refine SmG.nil ?_
          refine nextS_normal ?_
          exact ⟨⟨k + 1, by omega⟩, by show l.length - (k + 1) < l.length - k; omega, by exact St.le_of (by simp [leE, look, constD]) (by simp [leH, look, rep]) (by first | exact Nat.le_refl _ | (dsimp only; omega))⟩

        by_cases hin : n ≤ i
        · refine Sm.skip ?_
          refine nextS_normal ?_
          refine Sm.seq ?_
          refine Sm.drawG hF (by kernel_rfl) rfl 20 (by kernel_rfl) (by kernel_rfl) ?_
          simp only [List.take_succ_cons, List.take_zero, List.take_nil]
          refine Head.v hF rfl rfl rfl (opV_move rfl rfl) ?_
          refine Head.v hF rfl rfl rfl (opV_bin rfl rfl rfl (by first | exact rd_lssT _ _ _ _ _ (by omega) | exact rd_lssF _ _ _ _ _ (by omega) | exact rb_lss _ _ _ _ _ _ _)) ?_
          refine Head.v hF rfl rfl rfl (opV_move rfl rfl) ?_
          first | refine Head.v hF rfl rfl rfl (opV_move rfl rfl) ?_ | refine Head.p hF rfl rfl rfl ?_
          first | refine Head.v hF rfl rfl rfl (opV_move rfl rfl) ?_ | refine Head.p hF rfl rfl rfl ?_
          first | refine Head.v hF rfl rfl rfl (opV_bin rfl rfl rfl (by first | exact rd_geqT _ _ _ _ _ (by omega) | exact rd_geqF _ _ _ _ _ (by omega) | exact rb_geq _ _ _ _ _ _ _)) ?_ | refine Head.p hF rfl rfl rfl ?_
          first | refine Head.v hF rfl rfl rfl (opV_pickT rfl rfl rfl) ?_ | refine Head.v hF rfl rfl rfl (opV_pickF rfl rfl rfl) ?_
          refine Head.v hF rfl rfl rfl (opV_move rfl rfl) ?_
          first | refine Head.v hF rfl rfl rfl (opV_load rfl rfl (by simp (disch := omega) only [go_sem, Nat.reduceEqDiff, iteP, hk1, elemsL, bytesL, rowE, sumsL, sumD, sumD_length, hR, take_map', hcast, hsub] <;> rfl)) ?_ | refine Head.p hF rfl rfl rfl ?_
          first | refine Head.v hF rfl rfl rfl (opV_move rfl rfl) ?_ | refine Head.p hF rfl rfl rfl ?_
          first | refine Head.v hF rfl rfl rfl (opV_conv rfl rfl (by first | exact convS_int rfl rfl (wrapI64 _ (by omega)) | (simp (disch := omega) only [go_sem, hk1, elemsL, bytesL, rowE, sumsL, sumD, sumD_length, hR, take_map', hcast, hsub] <;> rfl))) ?_ | refine Head.p hF rfl rfl rfl ?_
          first | refine Head.v hF rfl rfl rfl (opV_move rfl rfl) ?_ | refine Head.p hF rfl rfl rfl ?_
          first | refine Head.v hF rfl rfl rfl (opV_conv rfl rfl (by first | exact convS_int rfl rfl (wrapI64 _ (by omega)) | (simp (disch := omega) only [go_sem, hk1, elemsL, bytesL, rowE, sumsL, sumD, sumD_length, hR, take_map', hcast, hsub] <;> rfl))) ?_ | refine Head.p hF rfl rfl rfl ?_
          first | refine Head.v hF rfl rfl rfl (opV_move rfl rfl) ?_ | refine Head.p hF rfl rfl rfl ?_
          first | refine Head.v hF rfl rfl rfl (opV_move rfl rfl) ?_ | refine Head.p hF rfl rfl rfl ?_
          first | refine Head.v hF rfl rfl rfl (opV_indexAddr rfl rfl rfl (by simp (disch := omega) only [go_sem, Nat.reduceEqDiff, iteP, hk1, elemsL, bytesL, rowE, sumsL, sumD, sumD_length, hR, take_map', hcast, hsub] <;> rfl)) ?_ | refine Head.p hF rfl rfl rfl ?_
          first | refine Head.v hF rfl rfl rfl (opV_load rfl rfl (by simp (disch := omega) only [go_sem, Nat.reduceEqDiff, iteP, hk1, elemsL, bytesL, rowE, sumsL, sumD, sumD_length, hR, take_map', hcast, hsub] <;> rfl)) ?_ | refine Head.p hF rfl rfl rfl ?_
          first | refine Head.v hF rfl rfl rfl (opV_move rfl rfl) ?_ | refine Head.p hF rfl rfl rfl ?_
          first | refine Head.c hF rfl rfl (by kernel_rfl) rfl rfl rfl (c3' (.inr hin)) ?_ | refine Head.p hF rfl rfl rfl ?_
          first | refine Head.v hF rfl rfl rfl (opV_pickT rfl rfl rfl) ?_ | refine Head.v hF rfl rfl rfl (opV_pickF rfl rfl rfl) ?_
          refine Head.last ⟨rfl, ?_⟩
          simp only [List.drop_succ_cons, List.drop_zero, List.drop_nil, List.nil_append, List.cons_append]
          refine SmG.nil ?_
          refine nextS_normal ?_
          refine Sm.condF hF rfl ?_
          refine Sm.skip ?_
          refine blockS_normal ?_
          refine nextS_normal ?_
          refine Sm.regionG hF rfl ?_
          refine SmG.v hF rfl rfl rfl (opV_move rfl rfl) ?_
          refine SmG.v hF rfl rfl rfl (opV_bin rfl rfl rfl (by first | exact rd_add _ _ _ _ _ (wrapI64 _ (by omega)) | exact rb_add _ _ _ _ _ _ _)) ?_
          refine SmG.v hF rfl rfl rfl (opV_assign rfl rfl) ?_
          refine SmG.nil ?_
          refine nextS_normal ?_
          exact ⟨⟨k + 1, by omega⟩, by show l.length - (k + 1) < l.length - k; omega, by exact St.le_of (by simp [leE, look, constD]) (by simp [leH, look, rep]) (by first | exact Nat.le_refl _ | (dsimp only; omega))⟩

        · refine Sm.skip ?_
          refine nextS_normal ?_
          refine Sm.seq ?_
          refine Sm.drawG hF (by kernel_rfl) rfl 20 (by kernel_rfl) (by kernel_rfl) ?_
          simp only [List.take_succ_cons, List.take_zero, List.take_nil]
          refine Head.v hF rfl rfl rfl (opV_move rfl rfl) ?_
          refine Head.v hF rfl rfl rfl (opV_bin rfl rfl rfl (by first | exact rd_lssT _ _ _ _ _ (by omega) | exact rd_lssF _ _ _ _ _ (by omega) | exact rb_lss _ _ _ _ _ _ _)) ?_
          refine Head.v hF rfl rfl rfl (opV_move rfl rfl) ?_
          first | refine Head.v hF rfl rfl rfl (opV_move rfl rfl) ?_ | refine Head.p hF rfl rfl rfl ?_
          first | refine Head.v hF rfl rfl rfl (opV_move rfl rfl) ?_ | refine Head.p hF rfl rfl rfl ?_
          first | refine Head.v hF rfl rfl rfl (opV_bin rfl rfl rfl (by first | exact rd_geqT _ _ _ _ _ (by omega) | exact rd_geqF _ _ _ _ _ (by omega) | exact rb_geq _ _ _ _ _ _ _)) ?_ | refine Head.p hF rfl rfl rfl ?_
          first | refine Head.v hF rfl rfl rfl (opV_pickT rfl rfl rfl) ?_ | refine Head.v hF rfl rfl rfl (opV_pickF rfl rfl rfl) ?_
          refine Head.v hF rfl rfl rfl (opV_move rfl rfl) ?_
          first | refine Head.v hF rfl rfl rfl (opV_load rfl rfl (by simp (disch := omega) only [go_sem, Nat.reduceEqDiff, iteP, hk1, elemsL, bytesL, rowE, sumsL, sumD, sumD_length, hR, take_map', hcast, hsub] <;> rfl)) ?_ | refine Head.p hF rfl rfl rfl ?_
          first | refine Head.v hF rfl rfl rfl (opV_move rfl rfl) ?_ | refine Head.p hF rfl rfl rfl ?_
          first | refine Head.v hF rfl rfl rfl (opV_conv rfl rfl (by first | exact convS_int rfl rfl (wrapI64 _ (by omega)) | (simp (disch := omega) only [go_sem, hk1, elemsL, bytesL, rowE, sumsL, sumD, sumD_length, hR, take_map', hcast, hsub] <;> rfl))) ?_ | refine Head.p hF rfl rfl rfl ?_
          first | refine Head.v hF rfl rfl rfl (opV_move rfl rfl) ?_ | refine Head.p hF rfl rfl rfl ?_
          first | refine Head.v hF rfl rfl rfl (opV_conv rfl rfl (by first | exact convS_int rfl rfl (wrapI64 _ (by omega)) | (simp (disch := omega) only [go_sem, hk1, elemsL, bytesL, rowE, sumsL, sumD, sumD_length, hR, take_map', hcast, hsub] <;> rfl))) ?_ | refine Head.p hF rfl rfl rfl ?_
          first | refine Head.v hF rfl rfl rfl (opV_move rfl rfl) ?_ | refine Head.p hF rfl rfl rfl ?_
          first | refine Head.v hF rfl rfl rfl (opV_move rfl rfl) ?_ | refine Head.p hF rfl rfl rfl ?_
          first | refine Head.v hF rfl rfl rfl (opV_indexAddr rfl rfl rfl (by simp (disch := omega) only [go_sem, Nat.reduceEqDiff, iteP, hk1, elemsL, bytesL, rowE, sumsL, sumD, sumD_length, hR, take_map', hcast, hsub] <;> rfl)) ?_ | refine Head.p hF rfl rfl rfl ?_
          first | refine Head.v hF rfl rfl rfl (opV_load rfl rfl (by simp (disch := omega) only [go_sem, Nat.reduceEqDiff, iteP, hk1, elemsL, bytesL, rowE, sumsL, sumD, sumD_length, hR, take_map', hcast, hsub] <;> rfl)) ?_ | refine Head.p hF rfl rfl rfl ?_
          first | refine Head.v hF rfl rfl rfl (opV_move rfl rfl) ?_ | refine Head.p hF rfl rfl rfl ?_
          refine Head.p hF rfl rfl rfl ?_
          first | refine Head.v hF rfl rfl rfl (opV_pickT rfl rfl rfl) ?_ | refine Head.v hF rfl rfl rfl (opV_pickF rfl rfl rfl) ?_
          refine Head.last ⟨rfl, ?_⟩
          simp only [List.drop_succ_cons, List.drop_zero, List.drop_nil, List.nil_append, List.cons_append]
          refine SmG.nil ?_
          refine nextS_normal ?_
          refine Sm.condF hF rfl ?_
          refine Sm.skip ?_
          refine blockS_normal ?_
          refine nextS_normal ?_
          refine Sm.regionG hF rfl ?_
          refine SmG.v hF rfl rfl rfl (opV_move rfl rfl) ?_
          refine SmG.v hF rfl rfl rfl (opV_bin rfl rfl rfl (by first | exact rd_add _ _ _ _ _ (wrapI64 _ (by omega)) | exact rb_add _ _ _ _ _ _ _)) ?_
          refine SmG.v hF rfl rfl rfl (opV_assign rfl rfl) ?_
          refine SmG.nil ?_
          refine nextS_normal ?_
          exact ⟨⟨k + 1, by omega⟩, by show l.length - (k + 1) < l.length - k; omega, by exact St.le_of (by simp [leE, look, constD]) (by simp [leH, look, rep]) (by first | exact Nat.le_refl _ | (dsimp only; omega))⟩

      · refine SmG.v hF rfl rfl rfl (opV_assign rfl rfl) ?_
        refine SmG.nil ?_
        refine nextS_normal ?_
        refine Sm.seq ?_
        refine Sm.seq ?_
        refine Sm.drawG hF (by kernel_rfl) rfl 31 (by kernel_rfl) (by kernel_rfl) ?_
        simp only [List.take_succ_cons, List.take_zero, List.take_nil]
        refine Head.v hF rfl rfl rfl (opV_load rfl rfl (by simp (disch := omega) only [go_sem, Nat.reduceEqDiff, iteP, hk1, elemsL, bytesL, rowE, sumsL, sumD, sumD_length, hR, take_map', hcast, hsub] <;> rfl)) ?_
        refine Head.v hF rfl rfl rfl (opV_move rfl rfl) ?_
        refine Head.v hF rfl rfl rfl (opV_len rfl rfl (by simp (disch := omega) only [go_sem, Nat.reduceEqDiff, iteP, hk1, elemsL, bytesL, rowE, sumsL, sumD, sumD_length, hR, take_map', hcast, hsub] <;> rfl)) ?_
        refine Head.v hF rfl rfl rfl (opV_move rfl rfl) ?_
        refine Head.v hF rfl rfl rfl (opV_move rfl rfl) ?_
        refine Head.v hF rfl rfl rfl (opV_move rfl rfl) ?_
        refine Head.v hF rfl rfl rfl (opV_indexAddr rfl rfl rfl (by simp (disch := omega) only [go_sem, Nat.reduceEqDiff, iteP, hk1, elemsL, bytesL, rowE, sumsL, sumD, sumD_length, hR, take_map', hcast, hsub] <;> rfl)) ?_
        refine Head.v hF rfl rfl rfl (opV_load rfl rfl (by simp (disch := omega) only [go_sem, Nat.reduceEqDiff, iteP, hk1, elemsL, bytesL, rowE, sumsL, sumD, sumD_length, hR, take_map', hcast, hsub] <;> rfl)) ?_
        refine Head.v hF rfl rfl rfl (opV_move rfl rfl) ?_
        refine Head.c hF rfl rfl (by kernel_rfl) rfl rfl rfl (c1) ?_
        refine Head.v hF rfl rfl rfl (opV_move rfl rfl) ?_
        first | refine Head.v hF rfl rfl rfl (opV_move rfl rfl) ?_ | refine Head.p hF rfl rfl rfl ?_
        first | refine Head.v hF rfl rfl rfl (opV_len rfl rfl (by simp (disch := omega) only [go_sem, Nat.reduceEqDiff, iteP, hk1, elemsL, bytesL, rowE, sumsL, sumD, sumD_length, hR, take_map', hcast, hsub] <;> rfl)) ?_ | refine Head.p hF rfl rfl rfl ?_
        first | refine Head.v hF rfl rfl rfl (opV_bin rfl rfl rfl (by first | exact rd_gtrT _ _ _ _ _ (by omega) | exact rd_gtrF _ _ _ _ _ (by omega) | exact rb_gtr _ _ _ _ _ _ _)) ?_ | refine Head.p hF rfl rfl rfl ?_
        first | refine Head.v hF rfl rfl rfl (opV_move rfl rfl) ?_ | refine Head.p hF rfl rfl rfl ?_
        first | refine Head.v hF rfl rfl rfl (opV_load rfl rfl (by simp (disch := omega) only [go_sem, Nat.reduceEqDiff, iteP, hk1, elemsL, bytesL, rowE, sumsL, sumD, sumD_length, hR, take_map', hcast, hsub] <;> rfl)) ?_ | refine Head.p hF rfl rfl rfl ?_
        first | refine Head.v hF rfl rfl rfl (opV_move rfl rfl) ?_ | refine Head.p hF rfl rfl rfl ?_
        first | refine Head.v hF rfl rfl rfl (opV_len rfl rfl (by simp (disch := omega) only [go_sem, Nat.reduceEqDiff, iteP, hk1, elemsL, bytesL, rowE, sumsL, sumD, sumD_length, hR, take_map', hcast, hsub] <;> rfl)) ?_ | refine Head.p hF rfl rfl rfl ?_
        first | refine Head.v hF rfl rfl rfl (opV_move rfl rfl) ?_ | refine Head.p hF rfl rfl rfl ?_
        first | refine Head.v hF rfl rfl rfl (opV_move rfl rfl) ?_ | refine Head.p hF rfl rfl rfl ?_
        first | refine Head.v hF rfl rfl rfl (opV_move rfl rfl) ?_ | refine Head.p hF rfl rfl rfl ?_
        first | refine Head.v hF rfl rfl rfl (opV_indexAddr rfl rfl rfl (by simp (disch := omega) only [go_sem, Nat.reduceEqDiff, iteP, hk1, elemsL, bytesL, rowE, sumsL, sumD, sumD_length, hR, take_map', hcast, hsub] <;> rfl)) ?_ | refine Head.p hF rfl rfl rfl ?_
        first | refine Head.v hF rfl rfl rfl (opV_load rfl rfl (by simp (disch := omega) only [go_sem, Nat.reduceEqDiff, iteP, hk1, elemsL, bytesL, rowE, sumsL, sumD, sumD_length, hR, take_map', hcast, hsub] <;> rfl)) ?_ | refine Head.p hF rfl rfl rfl ?_
        first | refine Head.v hF rfl rfl rfl (opV_move rfl rfl) ?_ | refine Head.p hF rfl rfl rfl ?_
        first | refine Head.v hF rfl rfl rfl (opV_move rfl rfl) ?_ | refine Head.p hF rfl rfl rfl ?_
        first | refine Head.v hF rfl rfl rfl (opV_len rfl rfl (by simp (disch := omega) only [go_sem, Nat.reduceEqDiff, iteP, hk1, elemsL, bytesL, rowE, sumsL, sumD, sumD_length, hR, take_map', hcast, hsub] <;> rfl)) ?_ | refine Head.p hF rfl rfl rfl ?_
        first | refine Head.v hF rfl rfl rfl (opV_bin rfl rfl rfl (by first | exact rd_sub _ _ _ _ _ (wrapI64 _ (by omega)) | exact rb_sub _ _ _ _ _ _ _)) ?_ | refine Head.p hF rfl rfl rfl ?_
        first | refine Head.v hF rfl rfl rfl (opV_slice rfl rfl rfl rfl rfl (by simp (disch := omega) only [go_sem, Nat.reduceEqDiff, iteP, hk1, elemsL, bytesL, rowE, sumsL, sumD, sumD_length, hR, take_map', hcast, hsub] <;> rfl)) ?_ | refine Head.p hF rfl rfl rfl ?_
        refine Head.p hF rfl rfl rfl ?_
        first | refine Head.v hF rfl rfl rfl (opV_pickT rfl rfl rfl) ?_ | refine Head.v hF rfl rfl rfl (opV_pickF rfl rfl rfl) ?_ | refine Head.p hF rfl rfl rfl ?_
        first | refine Head.v hF rfl rfl rfl (opV_pickT rfl rfl rfl) ?_ | refine Head.v hF rfl rfl rfl (opV_pickF rfl rfl rfl) ?_
        refine Head.last ⟨rfl, ?_⟩
        simp only [List.drop_succ_cons, List.drop_zero, List.drop_nil, List.nil_append, List.cons_append]
        refine SmG.nil ?_
        refine nextS_normal ?_
        refine Sm.condF hF rfl ?_

        by_cases hi0 : i < 0
        · refine Sm.skip ?_
          refine nextS_normal ?_
          refine Sm.seq ?_
          refine Sm.drawG hF (by kernel_rfl) rfl 20 (by kernel_rfl) (by kernel_rfl) ?_
          simp only [List.take_succ_cons, List.take_zero, List.take_nil]
          refine Head.v hF rfl rfl rfl (opV_move rfl rfl) ?_
          refine Head.v hF rfl rfl rfl (opV_bin rfl rfl rfl (by first | exact rd_lssT _ _ _ _ _ (by omega) | exact rd_lssF _ _ _ _ _ (by omega) | exact rb_lss _ _ _ _ _ _ _)) ?_
          refine Head.v hF rfl rfl rfl (opV_move rfl rfl) ?_
          first | refine Head.v hF rfl rfl rfl (opV_move rfl rfl) ?_ | refine Head.p hF rfl rfl rfl ?_
          first | refine Head.v hF rfl rfl rfl (opV_move rfl rfl) ?_ | refine Head.p hF rfl rfl rfl ?_
          first | refine Head.v hF rfl rfl rfl (opV_bin rfl rfl rfl (by first | exact rd_geqT _ _ _ _ _ (by omega) | exact rd_geqF _ _ _ _ _ (by omega) | exact rb_geq _ _ _ _ _ _ _)) ?_ | refine Head.p hF rfl rfl rfl ?_
          first | refine Head.v hF rfl rfl rfl (opV_pickT rfl rfl rfl) ?_ | refine Head.v hF rfl rfl rfl (opV_pickF rfl rfl rfl) ?_
          refine Head.v hF rfl rfl rfl (opV_move rfl rfl) ?_
          first | refine Head.v hF rfl rfl rfl (opV_load rfl rfl (by simp (disch := omega) only [go_sem, Nat.reduceEqDiff, iteP, hk1, elemsL, bytesL, rowE, sumsL, sumD, sumD_length, hR, take_map', hcast, hsub] <;> rfl)) ?_ | refine Head.p hF rfl rfl rfl ?_
          first | refine Head.v hF rfl rfl rfl (opV_move rfl rfl) ?_ | refine Head.p hF rfl rfl rfl ?_
          first | refine Head.v hF rfl rfl rfl (opV_conv rfl rfl (by first | exact convS_int rfl rfl (wrapI64 _ (by omega)) | (simp (disch := omega) only [go_sem, hk1, elemsL, bytesL, rowE, sumsL, sumD, sumD_length, hR, take_map', hcast, hsub] <;> rfl))) ?_ | refine Head.p hF rfl rfl rfl ?_
          first | refine Head.v hF rfl rfl rfl (opV_move rfl rfl) ?_ | refine Head.p hF rfl rfl rfl ?_
          first | refine Head.v hF rfl rfl rfl (opV_conv rfl rfl (by first | exact convS_int rfl rfl (wrapI64 _ (by omega)) | (simp (disch := omega) only [go_sem, hk1, elemsL, bytesL, rowE, sumsL, sumD, sumD_length, hR, take_map', hcast, hsub] <;> rfl))) ?_ | refine Head.p hF rfl rfl rfl ?_
          first | refine Head.v hF rfl rfl rfl (opV_move rfl rfl) ?_ | refine Head.p hF rfl rfl rfl ?_
          first | refine Head.v hF rfl rfl rfl (opV_move rfl rfl) ?_ | refine Head.p hF rfl rfl rfl ?_
          first | refine Head.v hF rfl rfl rfl (opV_indexAddr rfl rfl rfl (by simp (disch := omega) only [go_sem, Nat.reduceEqDiff, iteP, hk1, elemsL, bytesL, rowE, sumsL, sumD, sumD_length, hR, take_map', hcast, hsub] <;> rfl)) ?_ | refine Head.p hF rfl rfl rfl ?_
          first | refine Head.v hF rfl rfl rfl (opV_load rfl rfl (by simp (disch := omega) only [go_sem, Nat.reduceEqDiff, iteP, hk1, elemsL, bytesL, rowE, sumsL, sumD, sumD_length, hR, take_map', hcast, hsub] <;> rfl)) ?_ | refine Head.p hF rfl rfl rfl ?_
          first | refine Head.v hF rfl rfl rfl (opV_move rfl rfl) ?_ | refine Head.p hF rfl rfl rfl ?_
          first | refine Head.c hF rfl rfl (by kernel_rfl) rfl rfl rfl (c3' (.inl hi0)) ?_ | refine Head.p hF rfl rfl rfl ?_
          first | refine Head.v hF rfl rfl rfl (opV_pickT rfl rfl rfl) ?_ | refine Head.v hF rfl rfl rfl (opV_pickF rfl rfl rfl) ?_
          refine Head.last ⟨rfl, ?_⟩
          simp only [List.drop_succ_cons, List.drop_zero, List.drop_nil, List.nil_append, List.cons_append]
          refine SmG.nil ?_
          refine nextS_normal ?_
          refine Sm.condF hF rfl ?_
          refine Sm.skip ?_
          refine blockS_normal ?_
          refine nextS_normal ?_
          refine Sm.regionG hF rfl ?_
          refine SmG.v hF rfl rfl rfl (opV_move rfl rfl) ?_
          refine SmG.v hF rfl rfl rfl (opV_bin rfl rfl rfl (by first | exact rd_add _ _ _ _ _ (wrapI64 _ (by omega)) | exact rb_add _ _ _ _ _ _ _)) ?_
          refine SmG.v hF rfl rfl rfl (opV_assign rfl rfl) ?_
          refine SmG.nil ?_
          refine nextS_normal ?_
          exact ⟨⟨k + 1, by omega⟩, by show l.length - (k + 1) < l.length - k; omega, by exact St.le_of (by simp [leE, look, constD]) (by simp [leH, look, rep]) (by first | exact Nat.le_refl _ | (dsimp only; omega))⟩

        by_cases hin : n ≤ i
        · refine Sm.skip ?_
          refine nextS_normal ?_
          refine Sm.seq ?_
          refine Sm.drawG hF (by kernel_rfl) rfl 20 (by kernel_rfl) (by kernel_rfl) ?_
          simp only [List.take_succ_cons, List.take_zero, List.take_nil]
          refine Head.v hF rfl rfl rfl (opV_move rfl rfl) ?_
          refine Head.v hF rfl rfl rfl (opV_bin rfl rfl rfl (by first | exact rd_lssT _ _ _ _ _ (by omega) | exact rd_lssF _ _ _ _ _ (by omega) | exact rb_lss _ _ _ _ _ _ _)) ?_
          refine Head.v hF rfl rfl rfl (opV_move rfl rfl) ?_
          first | refine Head.v hF rfl rfl rfl (opV_move rfl rfl) ?_ | refine Head.p hF rfl rfl rfl ?_
          first | refine Head.v hF rfl rfl rfl (opV_move rfl rfl) ?_ | refine Head.p hF rfl rfl rfl ?_
          first | refine Head.v hF rfl rfl rfl (opV_bin rfl rfl rfl (by first | exact rd_geqT _ _ _ _ _ (by omega) | exact rd_geqF _ _ _ _ _ (by omega) | exact rb_geq _ _ _ _ _ _ _)) ?_ | refine Head.p hF rfl rfl rfl ?_
          first | refine Head.v hF rfl rfl rfl (opV_pickT rfl rfl rfl) ?_ | refine Head.v hF rfl rfl rfl (opV_pickF rfl rfl rfl) ?_
          refine Head.v hF rfl rfl rfl (opV_move rfl rfl) ?_
          first | refine Head.v hF rfl rfl rfl (opV_load rfl rfl (by simp (disch := omega) only [go_sem, Nat.reduceEqDiff, iteP, hk1, elemsL, bytesL, rowE, sumsL, sumD, sumD_length, hR, take_map', hcast, hsub] <;> rfl)) ?_ | refine Head.p hF rfl rfl rfl ?_
          first | refine Head.v hF rfl rfl rfl (opV_move rfl rfl) ?_ | refine Head.p hF rfl rfl rfl ?_
          first | refine Head.v hF rfl rfl rfl (opV_conv rfl rfl (by first | exact convS_int rfl rfl (wrapI64 _ (by omega)) | (simp (disch := omega) only [go_sem, hk1, elemsL, bytesL, rowE, sumsL, sumD, sumD_length, hR, take_map', hcast, hsub] <;> rfl))) ?_ | refine Head.p hF rfl rfl rfl ?_
          first | refine Head.v hF rfl rfl rfl (opV_move rfl rfl) ?_ | refine Head.p hF rfl rfl rfl ?_
          first | refine Head.v hF rfl rfl rfl (opV_conv rfl rfl (by first | exact convS_int rfl rfl (wrapI64 _ (by omega)) | (simp (disch := omega) only [go_sem, hk1, elemsL, bytesL, rowE, sumsL, sumD, sumD_length, hR, take_map', hcast, hsub] <;> rfl))) ?_ | refine Head.p hF rfl rfl rfl ?_
          first | refine Head.v hF rfl rfl rfl (opV_move rfl rfl) ?_ | refine Head.p hF rfl rfl rfl ?_
          first | refine Head.v hF rfl rfl rfl (opV_move rfl rfl) ?_ | refine Head.p hF rfl rfl rfl ?_
          first | refine Head.v hF rfl rfl rfl (opV_indexAddr rfl rfl rfl (by simp (disch := omega) only [go_sem, Nat.reduceEqDiff, iteP, hk1, elemsL, bytesL, rowE, sumsL, sumD, sumD_length, hR, take_map', hcast, hsub] <;> rfl)) ?_ | refine Head.p hF rfl rfl rfl ?_
          first | refine Head.v hF rfl rfl rfl (opV_load rfl rfl (by simp (disch := omega) only [go_sem, Nat.reduceEqDiff, iteP, hk1, elemsL, bytesL, rowE, sumsL, sumD, sumD_length, hR, take_map', hcast, hsub] <;> rfl)) ?_ | refine Head.p hF rfl rfl rfl ?_
          first | refine Head.v hF rfl rfl rfl (opV_move rfl rfl) ?_ | refine Head.p hF rfl rfl rfl ?_
          first | refine Head.c hF rfl rfl (by kernel_rfl) rfl rfl rfl (c3' (.inr hin)) ?_ | refine Head.p hF rfl rfl rfl ?_
          first | refine Head.v hF rfl rfl rfl (opV_pickT rfl rfl rfl) ?_ | refine Head.v hF rfl rfl rfl (opV_pickF rfl rfl rfl) ?_
          refine Head.last ⟨rfl, ?_⟩
          simp only [List.drop_succ_cons, List.drop_zero, List.drop_nil, List.nil_append, List.cons_append]
          refine SmG.nil ?_
          refine nextS_normal ?_
          refine Sm.condF hF rfl ?_
          refine Sm.skip ?_
          refine blockS_normal ?_
          refine nextS_normal ?_
          refine Sm.regionG hF rfl ?_
          refine SmG.v hF rfl rfl rfl (opV_move rfl rfl) ?_
          refine SmG.v hF rfl rfl rfl (opV_bin rfl rfl rfl (by first | exact rd_add _ _ _ _ _ (wrapI64 _ (by omega)) | exact rb_add _ _ _ _ _ _ _)) ?_
          refine SmG.v hF rfl rfl rfl (opV_assign rfl rfl) ?_
          refine SmG.nil ?_
          refine nextS_normal ?_
          exact ⟨⟨k + 1, by omega⟩, by show l.length - (k + 1) < l.length - k; omega, by exact St.le_of (by simp [leE, look, constD]) (by simp [leH, look, rep]) (by first | exact Nat.le_refl _ | (dsimp only; omega))⟩

        · refine Sm.skip ?_
          refine nextS_normal ?_
          refine Sm.seq ?_
          refine Sm.drawG hF (by kernel_rfl) rfl 20 (by kernel_rfl) (by kernel_rfl) ?_
          simp only [List.take_succ_cons, List.take_zero, List.take_nil]
          refine Head.v hF rfl rfl rfl (opV_move rfl rfl) ?_
          refine Head.v hF rfl rfl rfl (opV_bin rfl rfl rfl (by first | exact rd_lssT _ _ _ _ _ (by omega) | exact rd_lssF _ _ _ _ _ (by omega) | exact rb_lss _ _ _ _ _ _ _)) ?_
          refine Head.v hF rfl rfl rfl (opV_move rfl rfl) ?_
          first | refine Head.v hF rfl rfl rfl (opV_move rfl rfl) ?_ | refine Head.p hF rfl rfl rfl ?_
          first | refine Head.v hF rfl rfl rfl (opV_move rfl rfl) ?_ | refine Head.p hF rfl rfl rfl ?_
          first | refine Head.v hF rfl rfl rfl (opV_bin rfl rfl rfl (by first | exact rd_geqT _ _ _ _ _ (by omega) | exact rd_geqF _ _ _ _ _ (by omega) | exact rb_geq _ _ _ _ _ _ _)) ?_ | refine Head.p hF rfl rfl rfl ?_
          first | refine Head.v hF rfl rfl rfl (opV_pickT rfl rfl rfl) ?_ | refine Head.v hF rfl rfl rfl (opV_pickF rfl rfl rfl) ?_
          refine Head.v hF rfl rfl rfl (opV_move rfl rfl) ?_
          first | refine Head.v hF rfl rfl rfl (opV_load rfl rfl (by simp (disch := omega) only [go_sem, Nat.reduceEqDiff, iteP, hk1, elemsL, bytesL, rowE, sumsL, sumD, sumD_length, hR, take_map', hcast, hsub] <;> rfl)) ?_ | refine Head.p hF rfl rfl rfl ?_
          first | refine Head.v hF rfl rfl rfl (opV_move rfl rfl) ?_ | refine Head.p hF rfl rfl rfl ?_
          first | refine Head.v hF rfl rfl rfl (opV_conv rfl rfl (by first | exact convS_int rfl rfl (wrapI64 _ (by omega)) | (simp (disch := omega) only [go_sem, hk1, elemsL, bytesL, rowE, sumsL, sumD, sumD_length, hR, take_map', hcast, hsub] <;> rfl))) ?_ | refine Head.p hF rfl rfl rfl ?_
          first | refine Head.v hF rfl rfl rfl (opV_move rfl rfl) ?_ | refine Head.p hF rfl rfl rfl ?_
          first | refine Head.v hF rfl rfl rfl (opV_conv rfl rfl (by first | exact convS_int rfl rfl (wrapI64 _ (by omega)) | (simp (disch := omega) only [go_sem, hk1, elemsL, bytesL, rowE, sumsL, sumD, sumD_length, hR, take_map', hcast, hsub] <;> rfl))) ?_ | refine Head.p hF rfl rfl rfl ?_
          first | refine Head.v hF rfl rfl rfl (opV_move rfl rfl) ?_ | refine Head.p hF rfl rfl rfl ?_
          first | refine Head.v hF rfl rfl rfl (opV_move rfl rfl) ?_ | refine Head.p hF rfl rfl rfl ?_
          first | refine Head.v hF rfl rfl rfl (opV_indexAddr rfl rfl rfl (by simp (disch := omega) only [go_sem, Nat.reduceEqDiff, iteP, hk1, elemsL, bytesL, rowE, sumsL, sumD, sumD_length, hR, take_map', hcast, hsub] <;> rfl)) ?_ | refine Head.p hF rfl rfl rfl ?_
          first | refine Head.v hF rfl rfl rfl (opV_load rfl rfl (by simp (disch := omega) only [go_sem, Nat.reduceEqDiff, iteP, hk1, elemsL, bytesL, rowE, sumsL, sumD, sumD_length, hR, take_map', hcast, hsub] <;> rfl)) ?_ | refine Head.p hF rfl rfl rfl ?_
          first | refine Head.v hF rfl rfl rfl (opV_move rfl rfl) ?_ | refine Head.p hF rfl rfl rfl ?_
          refine Head.p hF rfl rfl rfl ?_
          first | refine Head.v hF rfl rfl rfl (opV_pickT rfl rfl rfl) ?_ | refine Head.v hF rfl rfl rfl (opV_pickF rfl rfl rfl) ?_
          refine Head.last ⟨rfl, ?_⟩
          simp only [List.drop_succ_cons, List.drop_zero, List.drop_nil, List.nil_append, List.cons_append]
          refine SmG.nil ?_
          refine nextS_normal ?_
          refine Sm.condF hF rfl ?_
          refine Sm.skip ?_
          refine blockS_normal ?_
          refine nextS_normal ?_
          refine Sm.regionG hF rfl ?_
          refine SmG.v hF rfl rfl rfl (opV_move rfl rfl) ?_
          refine SmG.v hF rfl rfl rfl (opV_bin rfl rfl rfl (by first | exact rd_add _ _ _ _ _ (wrapI64 _ (by omega)) | exact rb_add _ _ _ _ _ _ _)) ?_
          refine SmG.v hF rfl rfl rfl (opV_assign rfl rfl) ?_
          refine SmG.nil ?_
          refine nextS_normal ?_
          exact ⟨⟨k + 1, by omega⟩, by show l.length - (k + 1) < l.length - k; omega, by exact St.le_of (by simp [leE, look, constD]) (by simp [leH, look, rep]) (by first | exact Nat.le_refl _ | (dsimp only; omega))⟩

  · refine Sm.seq ?_
    refine Sm.seq ?_
    refine Sm.regionG hF rfl ?_
    refine SmG.v hF rfl rfl rfl (opV_move rfl rfl) ?_
    refine SmG.v hF rfl rfl rfl (opV_move rfl rfl) ?_
    refine SmG.v hF rfl rfl rfl (opV_len rfl rfl (by simp (disch := omega) only [go_sem, Nat.reduceEqDiff, iteP, elemsL, sumD, sumD_length, hR] <;> rfl)) ?_
    refine SmG.v hF rfl rfl rfl (opV_bin rfl rfl rfl (by first | exact rd_lssT _ _ _ _ _ (by omega) | exact rd_lssF _ _ _ _ _ (by omega) | exact rb_lss _ _ _ _ _ _ _)) ?_
    refine SmG.nil ?_
    refine nextS_normal ?_
    refine Sm.condF hF rfl ?_
    refine Sm.exit ?_
    simp only [nextS, blockS, reduceIte, reduceCtorEq]
    refine Sm.seq ?_
    refine Sm.regionG hF rfl ?_
    refine SmG.v hF rfl rfl rfl (opV_move rfl rfl) ?_
    refine SmG.v hF rfl rfl rfl (opV_move rfl rfl) ?_
    first | refine SmG.v hF rfl rfl rfl (opV_load rfl rfl (by simp (disch := omega) only [go_sem, Nat.reduceEqDiff, iteP, elemsL, sumD, sumD_length, hR] <;> rfl)) ?_ | refine SmG.pass hF rfl rfl rfl ?_
    first | refine SmG.v hF rfl rfl rfl (opV_move rfl rfl) ?_ | refine SmG.pass hF rfl rfl rfl ?_
    first | refine SmG.v hF rfl rfl rfl (opV_conv rfl rfl (by first | exact convS_int rfl rfl (wrapI64 _ (by omega)) | (simp (disch := omega) only [go_sem, elemsL, sumD, sumD_length, hR] <;> rfl))) ?_ | refine SmG.pass hF rfl rfl rfl ?_
    first | refine SmG.call hF rfl rfl (by kernel_rfl) rfl rfl rfl (n1) ?_ | refine SmG.pass hF rfl rfl rfl ?_
    first | refine SmG.v hF rfl rfl rfl (opV_un rfl rfl (by first | exact rd_notT _ | exact rd_notF _ | exact rd_not _)) ?_ | refine SmG.pass hF rfl rfl rfl ?_
    first | refine SmG.v hF rfl rfl rfl (opV_pickT rfl rfl rfl) ?_ | refine SmG.v hF rfl rfl rfl (opV_pickF rfl rfl rfl) ?_
    refine SmG.v hF rfl rfl rfl (opV_move rfl rfl) ?_
    first | refine SmG.v hF rfl rfl rfl (opV_load rfl rfl (by simp (disch := omega) only [go_sem, Nat.reduceEqDiff, iteP, elemsL, sumD, sumD_length, hR] <;> rfl)) ?_ | refine SmG.pass hF rfl rfl rfl ?_
    first | refine SmG.v hF rfl rfl rfl (opV_move rfl rfl) ?_ | refine SmG.pass hF rfl rfl rfl ?_
    first | refine SmG.v hF rfl rfl rfl (opV_conv rfl rfl (by first | exact convS_int rfl rfl (wrapI64 _ (by omega)) | (simp (disch := omega) only [go_sem, elemsL, sumD, sumD_length, hR] <;> rfl))) ?_ | refine SmG.pass hF rfl rfl rfl ?_
    first | refine SmG.v hF rfl rfl rfl (opV_move rfl rfl) ?_ | refine SmG.pass hF rfl rfl rfl ?_
    first | refine SmG.v hF rfl rfl rfl (opV_conv rfl rfl (by first | exact convS_int rfl rfl (wrapI64 _ (by omega)) | (simp (disch := omega) only [go_sem, elemsL, sumD, sumD_length, hR] <;> rfl))) ?_ | refine SmG.pass hF rfl rfl rfl ?_
    first | refine SmG.call hF rfl rfl (by kernel_rfl) rfl rfl rfl (n2) ?_ | refine SmG.pass hF rfl rfl rfl ?_
    first | refine SmG.v hF rfl rfl rfl (opV_un rfl rfl (by first | exact rd_notT _ | exact rd_notF _ | exact rd_not _)) ?_ | refine SmG.pass hF rfl rfl rfl ?_
    first | refine SmG.v hF rfl rfl rfl (opV_pickT rfl rfl rfl) ?_ | refine SmG.v hF rfl rfl rfl (opV_pickF rfl rfl rfl) ?_
    refine SmG.v hF rfl rfl rfl (opV_assign rfl rfl) ?_
    refine SmG.nil ?_
    refine nextS_normal ?_
    refine Sm.ret ?_
    refine ⟨_, rfl, ?_⟩; dsimp only
    exact D.le.refl _
end Go.Proofs.YtmindblfbijaaaaDoor
